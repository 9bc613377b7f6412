/- The reference's Run. -/
import Derived.Test.YtaldcgfhlflcpaaAJbl
import Derived.Test.YtaldcgfhlflcpaaAJbm
import Derived.Test.YtaldcgfhlflcpaaAJal
import Derived.Test.YtaldcgfhlflcpaaAJax
import Derived.Deep.RegionHeld3
import Derived.Test.YtaldcgfhlflcpaaAJar
import Derived.Deep.QuietTactic
import Derived.BigQuiet
import Derived.Deep.MidRow
set_option linter.unusedVariables false
set_option linter.unusedSimpArgs false
set_option linter.unnecessarySimpa false
namespace Go.Proofs.Ytaldcgfhlflcpaa
open Go.RowKit
set_option linter.unusedVariables false
set_option linter.unusedSimpArgs false
set_option maxRecDepth 100000
namespace Sg
open As
theorem haltDS : ∃ fs, Try.prog.underlying 36 = some (.struct fs) := ⟨_, Try.underlying36⟩
end Sg
end Go.Proofs.Ytaldcgfhlflcpaa
namespace Go.Proofs.Ytaldcgfhlflcpaa
open Go.RowKit
set_option linter.unusedVariables false
set_option linter.unusedSimpArgs false
set_option maxRecDepth 100000
namespace Sg
open As
theorem gc_len : gcL.length ≤ 1000 := by
  have h : decide (gcL.length ≤ 1000) = true := by kernel_rfl
  exact of_decide_eq_true h
end Sg
end Go.Proofs.Ytaldcgfhlflcpaa
namespace Go.Proofs.Ytaldcgfhlflcpaa
open Go.RowKit
set_option linter.unusedVariables false
set_option linter.unusedSimpArgs false
set_option maxRecDepth 100000
namespace Gc
theorem tmod2 (n k : Int) (hk : 0 < k) : (n.tmod k + k).tmod k = n % k := by
  have h1 := Int.lt_tmod_of_pos n hk
  have h2 := Int.tmod_lt_of_pos n hk
  have h3 : 0 ≤ n.tmod k + k := by omega
  rw [Int.tmod_eq_emod_of_nonneg h3, Int.add_emod_right]
  have h4 : (n - n.tmod k) % k = 0 := by
    have := Int.mul_tdiv_add_tmod n k
    have e : n - n.tmod k = k * n.tdiv k := by omega
    rw [e, Int.mul_emod_right]
  exact (Int.emod_emod_of_dvd _ (Int.dvd_refl k)) ▸ (Int.emod_eq_emod_iff_emod_sub_eq_zero.2 h4).symm
theorem pick_any (n k : Int) (hk : 0 < k) (hk2 : k ≤ 4611686018427387904) (w : World) : Calls Try.prog 11 #[.int .i64 n, .int .i64 k] w fun e w' => e = .returned (.int .i64 (n % k)) ∧ w = w' := by
  have h1 := Int.lt_tmod_of_pos n hk
  have h2 := Int.tmod_lt_of_pos n hk
  have hw : IntKind.i64.wrap (n.tmod k + k) = n.tmod k + k := by rw [IntKind.wrap_i64]; omega
  have hne : k ≠ 0 := by omega
  have ht := tmod2 n k hk
  go_enter Try.func11, Try.ntmps11
  go_wp2_with fail
  go_ret
  exact ⟨rfl, rfl⟩
def tagT (t : Int) : Int := if t % 3 = 0 then 0 else if t % 3 = 1 then 2 else 3
def numT (t n : Int) : Int := if tagT t ≠ 0 ∧ n.tmod 1125899906842624 < 0 then -(n.tmod 1125899906842624) else n.tmod 1125899906842624
def conv (K : Nat) (t n : Int) : W := if t = 1 ∧ 0 < K then .ref (n % (K : Int)).toNat else .raw (8 * numT t n + tagT t)
theorem numT_range (t n : Int) : -1125899906842624 < numT t n ∧ numT t n < 1125899906842624 := by
  have h1 := Int.lt_tmod_of_pos n (show (0 : Int) < 1125899906842624 by decide)
  have h2 := Int.tmod_lt_of_pos n (show (0 : Int) < 1125899906842624 by decide)
  unfold numT
  split <;> omega
theorem tagT_cases (t : Int) : (t % 3 = 0 ∧ tagT t = 0) ∨ (t % 3 = 1 ∧ tagT t = 2) ∨ (t % 3 = 2 ∧ tagT t = 3) := by
  unfold tagT
  by_cases h0 : t % 3 = 0
  · exact .inl ⟨h0, if_pos h0⟩
  · by_cases h1 : t % 3 = 1
    · exact .inr (.inl ⟨h1, by rw [if_neg h0, if_pos h1]⟩)
    · exact .inr (.inr ⟨by omega, by rw [if_neg h0, if_neg h1]⟩)
theorem conv_raw {K : Nat} {t n z : Int} (h : conv K t n = .raw z) : z % 8 ≠ 1 := by
  unfold conv at h
  split at h
  · cases h
  · injection h with h
    rcases tagT_cases t with ⟨-, e⟩ | ⟨-, e⟩ | ⟨-, e⟩ <;> rw [e] at h <;> omega
theorem conv_ref {K : Nat} {t n : Int} {j : Nat} (h : conv K t n = .ref j) : j < K := by
  unfold conv at h
  split at h
  · rename_i hc
    injection h with h
    have := Int.emod_nonneg n (show (K : Int) ≠ 0 by omega)
    have := Int.emod_lt_of_pos n (show (0 : Int) < K by omega)
    omega
  · cases h
def ints (P : Nat → Nat) (K : Nat) : List Int := (List.range K).map fun j => (P j : Int)
theorem ints_length (P : Nat → Nat) (K : Nat) : (ints P K).length = K := by simp [ints]
theorem ints_get (P : Nat → Nat) {K j : Nat} (h : j < K) : (ints P K).getD j 0 = P j := by
  unfold ints
  rw [List.getD_eq_getElem?_getD, List.getElem?_map, List.getElem?_range h]
  rfl
theorem int_at {w : World} {a : Option Addr} {K cap : Nat} {l : List Int} (h : Sl w (.slice a K cap) (i64s l)) (hl : l.length = K) (hne : 0 < K) : ∃ b off, a = some ⟨b, off, none⟩ ∧ b < w.heap.size ∧ ∀ j, j < K → w.cell? ⟨b, off + j, none⟩ = some (.int .i64 (l.getD j 0)) := by
  subst hl
  have hl : (i64s l).length = l.length := by simp [i64s]
  rw [← hl] at h
  obtain ⟨b, off, e, hb, hc⟩ := h.at (fun e => by rw [e] at hl; simp at hl; omega)
  refine ⟨b, off, e, hb, fun j hj => ?_⟩
  rw [hc j (by omega), List.getD_eq_getElem?_getD, List.getD_eq_getElem?_getD]
  unfold i64s
  rw [List.getElem?_map, List.getElem?_eq_getElem hj]
  rfl
set_option maxHeartbeats 4000000 in
theorem bits_any (t n : Int) (K : Nat) (a : Option Addr) (cap : Nat) (P : Nat → Nat) (w : World) (hs : Sl w (.slice a K cap) (i64s (ints P K))) (hK : K ≤ 1000) (hP : ∀ j, j < K → P j ≤ 1048576) :
    Calls Try.prog 12 #[.agg #[.int .i64 t, .int .i64 n], .slice a K cap] w fun e w' => e = .returned (.int .i64 (enc P (conv K t n))) ∧ Below w.heap.size w w' := by
  by_cases h1 : t = 1 ∧ 0 < K
  · obtain ⟨rfl, hk⟩ := h1
    have hc : conv K 1 n = .ref (n % (K : Int)).toNat := if_pos ⟨rfl, hk⟩
    have m1 := Int.emod_nonneg n (show (K : Int) ≠ 0 by omega)
    have m2 := Int.emod_lt_of_pos n (show (0 : Int) < K by omega)
    rw [hc]
    obtain ⟨j, hj⟩ : ∃ j : Nat, n % (K : Int) = j := ⟨(n % (K : Int)).toNat, by omega⟩
    rw [hj, Int.toNat_natCast, show enc P (.ref j) = 8 * (P j : Int) + 1 from rfl]
    go_enter Try.func12, Try.ntmps12
    go_upto_region 1 with fail
    have XB := Lib.hid ((Below.refl w.heap.size w).alloc (Nat.le_refl _) (.cells #[.int .i64 1, .int .i64 n] 24))
    have HA := Lib.hid (heap_alloc_new w (.cells #[.int .i64 1, .int .i64 n] 24))
    have HS := Lib.hid (hs.below XB.out (Nat.le_refl _))
    generalize w.alloc (.cells #[.int .i64 1, .int .i64 n] 24) = x at XB HA HS ⊢
    have c0 : x.cell? ⟨w.heap.size, 0, none⟩ = some (.int .i64 1) := by rw [cell_of_row _ _ _ _ _ _ HA.out]; rfl
    have c1 : x.cell? ⟨w.heap.size, 1, none⟩ = some (.int .i64 n) := by rw [cell_of_row _ _ _ _ _ _ HA.out]; rfl
    clear hs
    have hjl : j < K := by omega
    obtain ⟨b, off, rfl, hb, hcell⟩ := int_at HS.out (ints_length P K) hk
    have cj := hcell j hjl
    rw [ints_get P hjl] at cj
    have hpj := hP j hjl
    have k1 : IntKind.i64.wrap (8 * (P j : Int)) = 8 * (P j : Int) := by rw [IntKind.wrap_i64]; omega
    have k2 : IntKind.i64.wrap (8 * (P j : Int) + 1) = 8 * (P j : Int) + 1 := by rw [IntKind.wrap_i64]; omega
    have k3 : (0 : Int) < (K : Int) := by omega
    have k4 : (j : Int) < (K : Int) := by omega
    clear hcell HS HA
    go_wp2_with (first | (go_at_call 11; (with_reducible refine (pick_any n (K : Int) k3 (by omega) _).mono ?_); rintro e w2 ⟨rfl, rfl⟩; rw [hj]) | fail)
    go_ret
    exact ⟨rfl, XB.out⟩
  · have hc : conv K t n = .raw (8 * numT t n + tagT t) := if_neg h1
    rw [hc, show enc P (.raw (8 * numT t n + tagT t)) = 8 * numT t n + tagT t from rfl]
    have hnr := numT_range t n
    obtain ⟨z, hz⟩ : ∃ z, numT t n = z := ⟨_, rfl⟩
    obtain ⟨g, hg⟩ : ∃ g, tagT t = g := ⟨_, rfl⟩
    have hgc := tagT_cases t
    have hzz : z = if g ≠ 0 ∧ n.tmod 1125899906842624 < 0 then -(n.tmod 1125899906842624) else n.tmod 1125899906842624 := by rw [← hz, ← hg]; rfl
    rw [hg] at hgc ⊢
    rw [hz] at hnr ⊢
    clear hc hz hg
    obtain ⟨y, hy⟩ : ∃ y, n.tmod 1125899906842624 = y := ⟨_, rfl⟩
    have hy1 := Int.lt_tmod_of_pos n (show (0 : Int) < 1125899906842624 by decide)
    have hy2 := Int.tmod_lt_of_pos n (show (0 : Int) < 1125899906842624 by decide)
    rw [hy] at hzz hy1 hy2
    go_enter Try.func12, Try.ntmps12
    go_upto_region 1 with fail
    have XB := Lib.hid ((Below.refl w.heap.size w).alloc (Nat.le_refl _) (.cells #[.int .i64 t, .int .i64 n] 24))
    have HA := Lib.hid (heap_alloc_new w (.cells #[.int .i64 t, .int .i64 n] 24))
    have HS := Lib.hid (hs.below XB.out (Nat.le_refl _))
    generalize w.alloc (.cells #[.int .i64 t, .int .i64 n] 24) = x at XB HA HS ⊢
    have c0 : x.cell? ⟨w.heap.size, 0, none⟩ = some (.int .i64 t) := by rw [cell_of_row _ _ _ _ _ _ HA.out]; rfl
    have c1 : x.cell? ⟨w.heap.size, 1, none⟩ = some (.int .i64 n) := by rw [cell_of_row _ _ _ _ _ _ HA.out]; rfl
    clear hs
    have HP : Hid (∀ W, Calls Try.prog 11 #[.int .i64 t, .int .i64 3] W fun e w' => e = .returned (.int .i64 (t % 3)) ∧ W = w') := fun W => pick_any t 3 (by decide) (by decide) W
    have XC := Lib.hid (XB.out.alloc XB.out.size (.cells #[.int .i64 0, .int .i64 2, .int .i64 3] 3))
    have n1 : IntKind.i64.wrap (-y) = -y := by rw [IntKind.wrap_i64]; omega
    have n2 : IntKind.i64.wrap (8 * z) = 8 * z := by rw [IntKind.wrap_i64]; omega
    have n3 : IntKind.i64.wrap (8 * z + g) = 8 * z + g := by rw [IntKind.wrap_i64]; omega
    have HAA := HA.out
    have hxl : Hid (w.heap.size < x.heap.size) := (Array.getElem?_eq_some_iff.1 HA.out).1
    have HN := Lib.hid (heap_alloc_new x (.cells #[.int .i64 0, .int .i64 2, .int .i64 3] 3))
    have HO := Lib.hid ((heap_alloc_old x (.cells #[.int .i64 0, .int .i64 2, .int .i64 3] 3) hxl.out).trans HA.out)
    clear HAA HS HA
    have hK0 : t = 1 → K = 0 := fun e => by omega
    by_cases e1 : t = 1
    · obtain rfl := hK0 e1
      go_upto_region 4 with fail
      generalize x.alloc (.cells #[.int .i64 0, .int .i64 2, .int .i64 3] 3) = u at XC HN HO ⊢
      have c0 : u.cell? ⟨w.heap.size, 0, none⟩ = some (.int .i64 t) := by rw [cell_of_row _ _ _ _ _ _ HO.out]; rfl
      have c1 : u.cell? ⟨w.heap.size, 1, none⟩ = some (.int .i64 n) := by rw [cell_of_row _ _ _ _ _ _ HO.out]; rfl
      have d1 : u.cell? ⟨x.heap.size, 1, none⟩ = some (.int .i64 2) := by rw [cell_of_row _ _ _ _ _ _ HN.out]; rfl
      have hg2 : g = 2 := by omega
      subst hg2
      subst e1
      clear HN HO
      by_cases hy0 : y < 0
      · have hz2 : z = -y := by rw [hzz, if_pos ⟨by decide, hy0⟩]
        subst hz2
        clear hzz
        go_wp2_with (first | (go_at_call 11; (with_reducible refine (HP.out _).mono ?_); rintro e w2 ⟨rfl, rfl⟩) | fail)
        go_ret
        exact ⟨rfl, XC.out⟩
      · have hz2 : z = y := by rw [hzz, if_neg (fun h => hy0 h.2)]
        subst hz2
        clear hzz
        go_wp2_with (first | (go_at_call 11; (with_reducible refine (HP.out _).mono ?_); rintro e w2 ⟨rfl, rfl⟩) | fail)
        go_ret
        exact ⟨rfl, XC.out⟩
    · go_upto_region 4 with fail
      generalize x.alloc (.cells #[.int .i64 0, .int .i64 2, .int .i64 3] 3) = u at XC HN HO ⊢
      have c0 : u.cell? ⟨w.heap.size, 0, none⟩ = some (.int .i64 t) := by rw [cell_of_row _ _ _ _ _ _ HO.out]; rfl
      have c1 : u.cell? ⟨w.heap.size, 1, none⟩ = some (.int .i64 n) := by rw [cell_of_row _ _ _ _ _ _ HO.out]; rfl
      have d0 : u.cell? ⟨x.heap.size, 0, none⟩ = some (.int .i64 0) := by rw [cell_of_row _ _ _ _ _ _ HN.out]; rfl
      have d1 : u.cell? ⟨x.heap.size, 1, none⟩ = some (.int .i64 2) := by rw [cell_of_row _ _ _ _ _ _ HN.out]; rfl
      have d2 : u.cell? ⟨x.heap.size, 2, none⟩ = some (.int .i64 3) := by rw [cell_of_row _ _ _ _ _ _ HN.out]; rfl
      clear HN HO
      rcases hgc with ⟨hm, rfl⟩ | ⟨hm, rfl⟩ | ⟨hm, rfl⟩ <;> by_cases hy0 : y < 0
      · have hz2 : z = y := by rw [hzz, if_neg (fun h => h.1 rfl)]
        subst hz2
        clear hzz
        go_wp2_with (first | (go_at_call 11; (with_reducible refine (HP.out _).mono ?_); rintro e w2 ⟨rfl, rfl⟩) | fail)
        go_ret
        exact ⟨by simp, XC.out⟩
      · have hz2 : z = y := by rw [hzz, if_neg (fun h => h.1 rfl)]
        subst hz2
        clear hzz
        go_wp2_with (first | (go_at_call 11; (with_reducible refine (HP.out _).mono ?_); rintro e w2 ⟨rfl, rfl⟩) | fail)
        go_ret
        exact ⟨by simp, XC.out⟩
      all_goals
        first
          | (have hz2 : z = -y := by rw [hzz, if_pos ⟨by decide, hy0⟩])
          | (have hz2 : z = y := by rw [hzz, if_neg (fun h => hy0 h.2)])
        subst hz2
        clear hzz
        go_wp2_with (first | (go_at_call 11; (with_reducible refine (HP.out _).mono ?_); rintro e w2 ⟨rfl, rfl⟩) | fail)
        go_ret
        exact ⟨rfl, XC.out⟩
end Gc
end Go.Proofs.Ytaldcgfhlflcpaa
namespace Go.Proofs.Ytaldcgfhlflcpaa
open Go.RowKit
set_option linter.unusedVariables false
set_option linter.unusedSimpArgs false
set_option maxRecDepth 100000
namespace Gc
open As
theorem lit_own (w : World) (B : Nat) (l : List It) (hb : B ≤ w.heap.size) (hm : l.length ≤ maxLen) : (w.alloc (.cells (flat l).toArray 53)).ownsRow B 53 8 (.slice (some ⟨w.heap.size, 0, none⟩) l.length l.length) l.length (flat l) := by
  have h := World.ownsRow_lit (base := B) (e := 53) (size := 8) w (flat l).toArray l.length hb hm (by simp [flat_length])
  simpa using h
theorem lit_at (w : World) (l : List It) : ∀ (j : Nat) (u : Value), (flat l)[j]? = some u → (w.alloc (.cells (flat l).toArray 53)).cell? ((⟨w.heap.size, 0, none⟩ : Addr).add j) = some u := fun j u hu => by
  rw [Go.WideShapes.add_plain, Nat.zero_add, cell_of_row _ _ _ _ _ _ (heap_alloc_new w _)]
  simpa using hu
def regsV (R : Nat → Int) : List Value := (List.range 32).map fun i => .int .i64 (R i)
theorem regsV_get (R : Nat → Int) {i : Nat} (h : i < 32) : (regsV R)[i]? = some (.int .i64 (R i)) := by
  unfold regsV
  rw [List.getElem?_map, List.getElem?_range h]
  rfl
theorem take_regs {k : Nat} (h1 : 1 ≤ k) (h2 : k ≤ 31) : regsL.take k = regsL.take (k - 1) ++ [k] := by
  have : k = 1 ∨ k = 2 ∨ k = 3 ∨ k = 4 ∨ k = 5 ∨ k = 6 ∨ k = 7 ∨ k = 8 ∨ k = 9 ∨ k = 10 ∨ k = 11 ∨ k = 12 ∨ k = 13 ∨ k = 14 ∨ k = 15 ∨ k = 16 ∨ k = 17 ∨ k = 18 ∨ k = 19 ∨ k = 20 ∨ k = 21 ∨ k = 22 ∨ k = 23 ∨ k = 24 ∨ k = 25 ∨ k = 26 ∨ k = 27 ∨ k = 28 ∨ k = 29 ∨ k = 30 ∨ k = 31 := by omega
  rcases this with rfl | rfl | rfl | rfl | rfl | rfl | rfl | rfl | rfl | rfl | rfl | rfl | rfl | rfl | rfl | rfl | rfl | rfl | rfl | rfl | rfl | rfl | rfl | rfl | rfl | rfl | rfl | rfl | rfl | rfl | rfl <;> rfl
def itemsTo (R : Nat → Int) (k : Nat) : List It := numL R (regsL.take k)
theorem items_next (R : Nat → Int) {k : Nat} (h1 : 1 ≤ k) (h2 : k ≤ 31) : flat (itemsTo R (k - 1)) ++ flat [Sg.nmb (k : Int) (R k)] = flat (itemsTo R k) := by
  unfold itemsTo numL
  rw [← flat_append, take_regs h1 h2, List.map_append]
  rfl
theorem items_len (R : Nat → Int) {k : Nat} (h : k ≤ 31) : (itemsTo R k).length = k := by
  unfold itemsTo numL
  rw [List.length_map, List.length_take]
  exact Nat.min_eq_left h
set_option maxHeartbeats 8000000 in
theorem code_any' (R : Nat → Int) (D G l : List It) (hD : D.length ≤ 100) (hG : G.length ≤ 1000) (hall : l = itemsTo R 31 ++ D ++ [Sg.wth 0 0 0 0] ++ G) (herr : As.err l = 0) (v1 v2 : Value) (w : World) (hs1 : Sg.ISrc w v1 D) (hs2 : Sg.ISrc w v2 G) :
    Calls Try.prog 14 #[.agg (regsV R).toArray, v1, v2] w fun e w' => ∃ vc, e = .returned (.tuple #[vc, .bool true]) ∧ Sl w' vc (u32s (As.code l)) ∧ Below w.heap.size w w' := by
  obtain ⟨i0, hi, hz0, hz1, hz2⟩ := info_parts infoItem
  have HI := Lib.hid hi
  have HZ0 := Lib.hid hz0
  have HZ1 := Lib.hid hz1
  have HZ2 := Lib.hid hz2
  clear hi hz0 hz1 hz2
  obtain ⟨a1, c1, rfl, hl1, hn1⟩ := hs1
  obtain ⟨a2, c2, rfl, hl2, hn2⟩ := hs2
  have HS1 := Lib.hid hl1
  have HS2 := Lib.hid hl2
  have HN1 := Lib.hid hn1
  have HN2 := Lib.hid hn2
  have HALL := Lib.hid hall
  have HERR := Lib.hid herr
  clear hl1 hl2 hn1 hn2 hall herr
  go_enter Try.func14, Try.ntmps14
  go_upto_region 1 with fail
  have XB := Lib.hid ((Below.refl w.heap.size w).alloc (Nat.le_refl _) (.cells (regsV R).toArray 30))
  have HA := Lib.hid (heap_alloc_new w (.cells (regsV R).toArray 30))
  have HZ : Hid ((w.alloc (.cells (regsV R).toArray 30)).heap.size = w.heap.size + 1) := by unfold Hid; simp
  have HS1x := Lib.hid (HS1.out.below XB.out (Nat.le_refl _))
  have HS2x := Lib.hid (HS2.out.below XB.out (Nat.le_refl _))
  generalize w.alloc (.cells (regsV R).toArray 30) = x at XB HA HZ HS1x HS2x ⊢
  have HO := Lib.hid (lit_own x x.heap.size [] (Nat.le_refl _) (by decide))
  have XC := Lib.hid ((Below.refl x.heap.size x).alloc (Nat.le_refl _) (.cells (flat []).toArray 53))
  go_upto_region 3 with fail
  have e0 : (x.alloc (.cells (flat []).toArray 53)) = x.alloc (.cells #[] 53) := rfl
  rw [e0] at HO XC
  clear e0
  generalize x.alloc (.cells #[] 53) = y at HO XC ⊢
  go_loopg [8, 9] 32 (fun g s8 s9 wx => ∃ (k : Nat), 1 ≤ k ∧ k ≤ 32 ∧ g = 33 - k ∧ s9 = .int .i64 (k : Nat) ∧ Hid (wx.ownsRow x.heap.size 53 8 s8 (itemsTo R (k - 1)).length (flat (itemsTo R (k - 1)))) ∧ Hid (Below x.heap.size x wx))
  case atStart => exact ⟨1, by omega, by omega, rfl, rfl, HO, XC⟩
  case round =>
    obtain ⟨k, hk1, hk, rfl, rfl, HOk, HBk⟩ := hrel
    by_cases hlt : k < 32
    · have g1 : (k : Int) < 32 := by omega
      have g0 : (0 : Int) ≤ (k : Int) := by omega
      have g4 : IntKind.i64.wrap ((k : Int) + 1) = (k : Int) + 1 := by rw [IntKind.wrap_i64]; omega
      have hlen := items_len R (k := k - 1) (by omega)
      have HAk := Lib.hid ((HBk.out.block w.heap.size (by have := HZ.out; omega)).trans HA.out)
      have hc : wr.cell? ⟨w.heap.size, k, none⟩ = some (.int .i64 (R k)) := by
        rw [cell_of_row _ _ _ _ _ _ HAk.out]
        simpa using regsV_get R hlt
      go_wp2_with (first
        | (at_builtin; (refine Sg.wpList_append_g rfl (.tmp 18) (.tmp 25) 39 rfl x.heap.size 53 i0 (.agg #[.int .i64 0, .int .i64 0, .int .i64 0, .int .i64 0, .int .i64 0, .int .i64 0, .int .i64 0, .int .i64 0]) 8 64 Try.underlying39 HI.out HZ0.out HZ1.out HZ2.out rfl (by decide) _ (itemsTo R (k - 1)).length (flat (itemsTo R (k - 1))) rfl (HOk.out.alloc _) (some ⟨wr.heap.size, 0, none⟩) 1 1 (flat [Sg.nmb (k : Int) (R k)]) rfl (flat_length _) (.inr ⟨_, rfl, lit_at wr [Sg.nmb (k : Int) (R k)]⟩) (Sg.flat_one _) (by simp only [maxLen]; omega) (by omega) (by have := HBk.out.size; simp; omega) ?_); intro v5 w5 ho5 hg5; have HO5 := Lib.hid ho5; have HB5 := Lib.hid ((HBk.out.alloc HBk.out.size _).grown hg5 (by have := HBk.out.size; simp; omega) (fun q hq => (HOk.out.lt q hq).1)); clear ho5 hg5)
        | fail)
      go_roundg (33 - (k + 1))
      case measure => omega
      case rel =>
        refine ⟨k + 1, by omega, by omega, rfl, by go_num, ?_, HB5⟩
        have h := HO5.out
        rw [items_next R hk1 (by omega), hlen, show k - 1 + 1 = k by omega] at h
        rw [Nat.add_sub_cancel, items_len R (by omega)]
        exact h
    · obtain rfl : k = 32 := by omega
      clear hk1 hk hlt
      have HOk2 := HOk.out
      rw [show 32 - 1 = 31 from rfl, items_len R (by omega)] at HOk2
      have HOk2 := Lib.hid HOk2
      clear HOk
      have hxy := XB.out.size
      have HD1 := Lib.hid (HS1x.out.below HBk.out (Nat.le_refl _))
      have HG1 := Lib.hid (HS2x.out.below HBk.out (Nat.le_refl _))
      go_wp2_with (first
        | (at_builtin; (refine Sg.wpList_append_g rfl (.tmp 27) (.tmp 28) 39 rfl x.heap.size 53 i0 (.agg #[.int .i64 0, .int .i64 0, .int .i64 0, .int .i64 0, .int .i64 0, .int .i64 0, .int .i64 0, .int .i64 0]) 8 64 Try.underlying39 HI.out HZ0.out HZ1.out HZ2.out rfl (by decide) _ 31 (flat (itemsTo R 31)) rfl HOk2.out a1 D.length c1 (flat D) rfl (flat_length D) (Sg.isl_src HD1.out HN1.out) (Sg.flat_one D) (by simp only [maxLen]; omega) (by omega) HBk.out.size ?_); intro v5 w5 ho5 hg5; have HO5 := Lib.hid ho5; have HB5 := Lib.hid (HBk.out.grown hg5 HBk.out.size (fun q hq => (HOk2.out.lt q hq).1)); clear ho5 hg5)
        | (at_builtin; (refine Sg.wpList_append_g rfl (.tmp 30) (.tmp 33) 39 rfl x.heap.size 53 i0 (.agg #[.int .i64 0, .int .i64 0, .int .i64 0, .int .i64 0, .int .i64 0, .int .i64 0, .int .i64 0, .int .i64 0]) 8 64 Try.underlying39 HI.out HZ0.out HZ1.out HZ2.out rfl (by decide) _ (31 + D.length) (flat (itemsTo R 31) ++ flat D) rfl (HO5.out.alloc _) (some ⟨w5.heap.size, 0, none⟩) 1 1 (flat [Sg.wth 0 0 0 0]) rfl (flat_length _) (.inr ⟨_, rfl, lit_at w5 [Sg.wth 0 0 0 0]⟩) (Sg.flat_one _) (by simp only [maxLen]; omega) (by omega) (by have := HB5.out.size; simp; omega) ?_); intro v6 w6 ho6 hg6; have HO6 := Lib.hid ho6; have HB6 := Lib.hid ((HB5.out.alloc HB5.out.size _).grown hg6 (by have := HB5.out.size; simp; omega) (fun q hq => (HO5.out.lt q hq).1)); have HG6 := Lib.hid (HS2x.out.below HB6.out (Nat.le_refl _)); clear ho6 hg6)
        | (at_builtin; (refine Sg.wpList_append_g rfl (.tmp 36) (.tmp 37) 39 rfl x.heap.size 53 i0 (.agg #[.int .i64 0, .int .i64 0, .int .i64 0, .int .i64 0, .int .i64 0, .int .i64 0, .int .i64 0, .int .i64 0]) 8 64 Try.underlying39 HI.out HZ0.out HZ1.out HZ2.out rfl (by decide) _ (31 + D.length + 1) (flat (itemsTo R 31) ++ flat D ++ flat [Sg.wth 0 0 0 0]) rfl HO6.out a2 G.length c2 (flat G) rfl (flat_length G) (Sg.isl_src HG6.out HN2.out) (Sg.flat_one G) (by simp only [maxLen]; omega) (by omega) HB6.out.size ?_); intro v7 w7 ho7 hg7; have HO7 := Lib.hid ho7; have HB7 := Lib.hid (HB6.out.grown hg7 HB6.out.size (fun q hq => (HO6.out.lt q hq).1)); clear ho7 hg7)
        | fail)
      have hll : (itemsTo R 31 ++ D ++ [Sg.wth 0 0 0 0] ++ G).length = 31 + D.length + 1 + G.length := by
        simp only [List.length_append, items_len R (show 31 ≤ 31 by omega), List.length_cons, List.length_nil]
      have HLL : Hid (ISl w7 v7 l) := by
        unfold Hid
        rw [HALL.out]
        refine isl_own (B := x.heap.size) ?_
        have h := HO7.out
        rw [← flat_append, ← flat_append, ← flat_append, ← hll] at h
        exact h
      have hcap : ∀ a n c, v7 = .slice a n c → l.length ≤ c := fun a n c e => by
        have h := HO7.out
        rw [e] at h
        have := Sg.own_cap_le h
        rw [HALL.out, hll]
        exact this
      obtain ⟨a7, c7, hv7, -⟩ := own_form HO7.out
      have hcap7 := hcap _ _ _ hv7
      clear hcap
      subst hv7
      have hlm : 31 + D.length + 1 + G.length = l.length := by rw [HALL.out, hll]
      rw [hlm] at HLL
      have HASM := rassemble_any a7 c7 l w7 HLL.out hcap7 (by rw [← hlm]; omega)
      rw [← hlm] at HASM
      have HAS := Lib.hid HASM
      clear HASM hlm hcap7 hll
      with_reducible refine HAS.out.mono ?_
      rintro e w8 ⟨hb8, h8⟩
      rw [if_pos HERR.out] at h8
      obtain ⟨vc, vp, rfl, hc8, -⟩ := h8
      have HBT := Lib.hid ((XB.out.trans (HB7.out.mono XB.out.size)).trans (hb8.mono (by have := HB7.out.size; have := XB.out.size; omega)))
      have HC8 := Lib.hid hc8
      clear hb8 hc8 HAS HLL HO5 HO6 HO7 HB5 HB6 HB7
      go_wp2_with fail
      go_ret2
      exact ⟨vc, rfl, HC8.out, HBT.out⟩
theorem code_any (R : Nat → Int) (t : Nat) (h1 : 1 ≤ t) (h3 : t ≤ 3) (v1 v2 : Value) (w : World) (hs1 : Sg.ISrc w v1 (List.replicate t (Sg.jmp 31 1))) (hs2 : Sg.ISrc w v2 Sg.gcL) :
    Calls Try.prog 14 #[.agg (regsV R).toArray, v1, v2] w fun e w' => ∃ vc, e = .returned (.tuple #[vc, .bool true]) ∧ Sl w' vc (u32s (As.code (allL R t))) ∧ Below w.heap.size w w' := by
  refine code_any' R (List.replicate t (Sg.jmp 31 1)) Sg.gcL (allL R t) (by simp; omega) Sg.gc_len ?_ ((body_all h1 h3).1 R) v1 v2 w hs1 hs2
  unfold allL bodyL itemsTo
  rw [show regsL.take 31 = regsL from rfl]
  simp only [List.append_assoc]
end Gc
end Go.Proofs.Ytaldcgfhlflcpaa
namespace Go.Proofs.Ytaldcgfhlflcpaa
open Go.RowKit
set_option linter.unusedVariables false
set_option linter.unusedSimpArgs false
set_option maxRecDepth 100000
namespace Gc
theorem wpList_push {w w0 : World} {ops : Array Oper} {rest : List Oper} {o : Oper} {a : Act} {Q : Exit → Act → World → Prop} (hw : Region.wanted o (yielded ops a.tmps) = true) (s x : Operand)
    (ho : o.op = .call { callee := .builtin .append, args := #[s, x], argTypes := #[29, 29] })
    (base : Nat) (v : Value) (L : List Int) (z : Int) (hL : L.length ≤ 100000000) (hs : a.eval s = v) (hwe : w = w0.alloc (.cells #[.int .i64 z] 3)) (hown : w0.ownsRow base 3 1 v L.length (i64s L)) (hx : a.eval x = .slice (some ⟨w0.heap.size, 0, none⟩) 1 1) (hbase : base ≤ w0.heap.size)
    (h : ∀ (av : Option Addr) (cv : Nat) (w' : World), w'.ownsRow base 3 1 (.slice av (L ++ [z]).length cv) (L ++ [z]).length (i64s (L ++ [z])) → w.grownBy w' v.ownBlock → ((Value.slice av (L ++ [z]).length cv).ownBlock = v.ownBlock ∨ (Value.slice av (L ++ [z]).length cv).ownBlock = some w.heap.size) → wpList Try.prog ops Q rest (a.put o.dst (.slice av (L ++ [z]).length cv)) w') : wpList Try.prog ops Q (o :: rest) a w := by
  obtain ⟨i0, hi, hz0, hz1, hz2⟩ := info_parts infoI21
  have e1 : (L ++ [z]).length = L.length + 1 := by simp
  have e2 : i64s (L ++ [z]) = i64s L ++ [.int .i64 z] := by simp [i64s]
  rw [e1, e2] at h
  have hown' : w.ownsRow base 3 1 v L.length (i64s L) := by rw [hwe]; exact hown.alloc _
  have hcell : ∀ j u, [Value.int .i64 z][j]? = some u → w.cell? ((⟨w0.heap.size, 0, none⟩ : Addr).add j) = some u := fun j u hu => by
    rw [hwe, Go.WideShapes.add_plain, Nat.zero_add, cell_of_row _ _ _ _ _ _ (heap_alloc_new w0 _)]
    simpa using hu
  obtain ⟨v', w', hr, h2, h3, _, h5⟩ := run_append_own_at (P := Try.prog) w base 29 o.type 3 i0 _ 1 8 Try.underlying29 hi hz0 hz1 hz2 rfl (by decide) v L.length (i64s L) hown' ⟨w0.heap.size, 0, none⟩ 1 1 [.int .i64 z] rfl hcell (by intro u hu; simp at hu; subst hu; rfl) (by simp only [maxLen]; omega) (by omega) (by rw [hwe]; simp; omega)
  obtain ⟨av, cv, rfl⟩ : ∃ av cv, v' = .slice av (L.length + 1) cv := by
    rcases own_shape h2 with ⟨e1, e2, _⟩ | ⟨g, c, e1, _⟩
    · omega
    · exact ⟨_, c, e1⟩
  unfold wpList
  rw [if_pos hw]
  refine .inl ?_
  unfold Oper.wp execOp
  simp only [ho, resolve, invoke, builtin, Sem.run_bind, Sem.run_pure, Result.andThen_ok, List.map_toArray, List.map_cons, List.map_nil, hs, hx, hr]
  exact h av cv w' h2 h3 h5
def Apart (u v : Value) : Prop := ∀ c, u.ownBlock = some c → v.ownBlock ≠ some c
theorem Apart.symm {u v : Value} (h : Apart u v) : Apart v u := fun c h1 h2 => h c h2 h1
structure Rs4 (B : Nat) (w : World) (v0 v1 v2 v3 : Value) (l0 l1 l2 l3 : List Int) : Prop where
  o0 : w.ownsRow B 3 1 v0 l0.length (i64s l0)
  o1 : w.ownsRow B 3 1 v1 l1.length (i64s l1)
  o2 : w.ownsRow B 3 1 v2 l2.length (i64s l2)
  o3 : w.ownsRow B 3 1 v3 l3.length (i64s l3)
  a01 : Apart v0 v1
  a02 : Apart v0 v2
  a03 : Apart v0 v3
  a12 : Apart v1 v2
  a13 : Apart v1 v3
  a23 : Apart v2 v3
section
variable {B : Nat} {w w' : World} {v0 v1 v2 v3 : Value} {l0 l1 l2 l3 : List Int}
theorem Rs4.s01 (h : Rs4 B w v0 v1 v2 v3 l0 l1 l2 l3) : Rs4 B w v1 v0 v2 v3 l1 l0 l2 l3 := ⟨h.o1, h.o0, h.o2, h.o3, h.a01.symm, h.a12, h.a13, h.a02, h.a03, h.a23⟩
theorem Rs4.s12 (h : Rs4 B w v0 v1 v2 v3 l0 l1 l2 l3) : Rs4 B w v0 v2 v1 v3 l0 l2 l1 l3 := ⟨h.o0, h.o2, h.o1, h.o3, h.a02, h.a01, h.a03, h.a12.symm, h.a23, h.a13⟩
theorem Rs4.s23 (h : Rs4 B w v0 v1 v2 v3 l0 l1 l2 l3) : Rs4 B w v0 v1 v3 v2 l0 l1 l3 l2 := ⟨h.o0, h.o1, h.o3, h.o2, h.a01, h.a03, h.a02, h.a13, h.a12, h.a23.symm⟩
theorem Rs4.below (h : Rs4 B w v0 v1 v2 v3 l0 l1 l2 l3) (hb : Below w.heap.size w w') : Rs4 B w' v0 v1 v2 v3 l0 l1 l2 l3 :=
  ⟨own_keep21 h.o0 hb, own_keep21 h.o1 hb, own_keep21 h.o2 hb, own_keep21 h.o3 hb, h.a01, h.a02, h.a03, h.a12, h.a13, h.a23⟩
theorem Rs4.push0 (h : Rs4 B w v0 v1 v2 v3 l0 l1 l2 l3) {o : Obj} {v' : Value} {l' : List Int} (ho : w'.ownsRow B 3 1 v' l'.length (i64s l')) (hg : (w.alloc o).grownBy w' v0.ownBlock) (hl : v'.ownBlock = v0.ownBlock ∨ v'.ownBlock = some (w.alloc o).heap.size) : Rs4 B w' v' v1 v2 v3 l' l1 l2 l3 := by
  have key : ∀ (v : Value) (l : List Int), w.ownsRow B 3 1 v l.length (i64s l) → Apart v0 v → w'.ownsRow B 3 1 v l.length (i64s l) ∧ Apart v' v := by
    intro v l hv ha
    refine ⟨(hv.alloc o).kept hg ?_, ?_⟩
    · cases e : v.ownBlock with
      | none => exact .inl rfl
      | some c => exact .inr fun e2 => ha c e2.symm e
    · intro c h1 h2
      rcases hl with hl | hl
      · exact ha c (hl ▸ h1) h2
      · have := (hv.lt c h2).2
        rw [hl] at h1
        injection h1 with h1
        have hz : (w.alloc o).heap.size = w.heap.size + 1 := by simp
        omega
  obtain ⟨p1, q1⟩ := key v1 l1 h.o1 h.a01
  obtain ⟨p2, q2⟩ := key v2 l2 h.o2 h.a02
  obtain ⟨p3, q3⟩ := key v3 l3 h.o3 h.a03
  exact ⟨ho, p1, p2, p3, q1, q2, q3, h.a12, h.a13, h.a23⟩
theorem Rs4.push1 (h : Rs4 B w v0 v1 v2 v3 l0 l1 l2 l3) {o : Obj} {v' : Value} {l' : List Int} (ho : w'.ownsRow B 3 1 v' l'.length (i64s l')) (hg : (w.alloc o).grownBy w' v1.ownBlock) (hl : v'.ownBlock = v1.ownBlock ∨ v'.ownBlock = some (w.alloc o).heap.size) : Rs4 B w' v0 v' v2 v3 l0 l' l2 l3 := (h.s01.push0 ho hg hl).s01
theorem Rs4.push2 (h : Rs4 B w v0 v1 v2 v3 l0 l1 l2 l3) {o : Obj} {v' : Value} {l' : List Int} (ho : w'.ownsRow B 3 1 v' l'.length (i64s l')) (hg : (w.alloc o).grownBy w' v2.ownBlock) (hl : v'.ownBlock = v2.ownBlock ∨ v'.ownBlock = some (w.alloc o).heap.size) : Rs4 B w' v0 v1 v' v3 l0 l1 l' l3 := (h.s12.push1 ho hg hl).s12
theorem Rs4.push3 (h : Rs4 B w v0 v1 v2 v3 l0 l1 l2 l3) {o : Obj} {v' : Value} {l' : List Int} (ho : w'.ownsRow B 3 1 v' l'.length (i64s l')) (hg : (w.alloc o).grownBy w' v3.ownBlock) (hl : v'.ownBlock = v3.ownBlock ∨ v'.ownBlock = some (w.alloc o).heap.size) : Rs4 B w' v0 v1 v2 v' l0 l1 l2 l' := (h.s23.push2 ho hg hl).s23
end
theorem own_ints_at {w : World} {B : Nat} {v : Value} {l : List Int} (h : w.ownsRow B 3 1 v l.length (i64s l)) : ∃ a c, v = .slice a l.length c ∧ Sl w (.slice a l.length c) (i64s l) := by
  have hs := Sl.own h
  obtain ⟨a, c, e⟩ := hs.len
  have hl : (i64s l).length = l.length := by simp [i64s]
  rw [hl] at e
  exact ⟨a, c, e, e ▸ hs⟩
end Gc
end Go.Proofs.Ytaldcgfhlflcpaa
namespace Go.Proofs.Ytaldcgfhlflcpaa
open Go.RowKit
set_option linter.unusedVariables false
set_option linter.unusedSimpArgs false
set_option maxRecDepth 100000
namespace Gc
theorem size_any (mem : List Int) (a : Option Addr) (cap p : Nat) (w : World) (hs : Sl w (.slice a mem.length cap) (i64s mem)) (hp : p < mem.length) : Calls Try.prog 30 #[.slice a mem.length cap, .int .i64 (p : Nat)] w fun e w' => e = .returned (.int .i64 (mem.getD p 0 / 64)) ∧ w = w' := by
  obtain ⟨b, off, rfl, hb, hc⟩ := int_at hs rfl (by omega)
  have c0 := hc p hp
  have g0 : (0 : Int) ≤ (p : Int) := by omega
  have g1 : (p : Int) < (mem.length : Nat) := by omega
  clear hc hs
  go_enter Try.func30, Try.ntmps30
  go_wp2_with fail
  go_ret
  exact ⟨by simp [hp], rfl⟩
def rootL (R : Nat → Int) (mem : List Int) (k : Nat) : List Int := (List.range 25).map (fun i => R (i + 1)) ++ [mem.getD 25 0, mem.getD 26 0] ++ (List.range k).map fun i => mem.getD (32 + i) 0
theorem rootL_len (R : Nat → Int) (mem : List Int) (k : Nat) : (rootL R mem k).length = 27 + k := by simp [rootL]; omega
theorem rootL_next (R : Nat → Int) (mem : List Int) (k : Nat) : rootL R mem k ++ [mem.getD (32 + k) 0] = rootL R mem (k + 1) := by
  unfold rootL
  rw [List.range_succ (n := k), List.map_append, List.append_assoc]
  rfl
theorem rootL_zero (R : Nat → Int) (mem : List Int) : i64s ((List.range 25).map (fun i => R (i + 1))) ++ [.int .i64 (mem.getD 25 0), .int .i64 (mem.getD 26 0)] = i64s (rootL R mem 0) := by
  unfold rootL i64s
  simp
theorem regs_sub (R : Nat → Int) : ∀ (j : Nat) (u : Value), (i64s ((List.range 25).map (fun i => R (i + 1))))[j]? = some u → (regsV R)[1 + j]? = some u := by
  intro j u hu
  unfold i64s at hu
  have hj : j < 25 := by have := (List.getElem?_eq_some_iff.1 hu).1; simpa using this
  rw [List.getElem?_map, List.getElem?_map, List.getElem?_range hj] at hu
  rw [regsV_get R (by omega), show 1 + j = j + 1 by omega]
  simpa using hu
theorem i64_one (l : List Int) : ∀ u ∈ i64s l, u.oneCell' = true := by
  intro u hu
  obtain ⟨z, -, rfl⟩ := List.mem_map.1 hu
  rfl
set_option maxHeartbeats 8000000 in
theorem roots_any (R : Nat → Int) (mem : List Int) (a : Option Addr) (cap s : Nat) (w : World) (hs : Sl w (.slice a mem.length cap) (i64s mem)) (hm : 32 + s ≤ mem.length) (hml : mem.length ≤ 1048576) (h30 : R 30 = ((32 + s : Nat) : Int)) :
    Calls Try.prog 29 #[.slice a mem.length cap, .agg (regsV R).toArray] w fun e w' => ∃ v, e = .returned v ∧ w'.ownsRow w.heap.size 3 1 v (rootL R mem s).length (i64s (rootL R mem s)) ∧ Below w.heap.size w w' := by
  obtain ⟨i0, hi, hz0, hz1, hz2⟩ := info_parts infoI21
  have HI := Lib.hid hi
  have HZ0 := Lib.hid hz0
  have HZ1 := Lib.hid hz1
  have HZ2 := Lib.hid hz2
  clear hi hz0 hz1 hz2
  obtain ⟨b, off, rfl, hb, hc⟩ := int_at hs rfl (by omega)
  have HC := Lib.hid hc
  have HLT := Lib.hid hb
  clear hc hs hb
  have HH30 := Lib.hid h30
  clear h30
  go_enter Try.func29, Try.ntmps29
  go_upto_region 1 with fail
  have XB := Lib.hid ((Below.refl w.heap.size w).alloc (Nat.le_refl _) (.cells (regsV R).toArray 30))
  have HA := Lib.hid (heap_alloc_new w (.cells (regsV R).toArray 30))
  have HZ : Hid ((w.alloc (.cells (regsV R).toArray 30)).heap.size = w.heap.size + 1) := by unfold Hid; simp
  generalize w.alloc (.cells (regsV R).toArray 30) = x at XB HA HZ ⊢
  have HA2 := Lib.hid ((heap_alloc_old x (.cells #[] 3) (by have := HZ.out; omega)).trans HA.out)
  go_wp2_with (first
    | (at_builtin; (refine Sg.wpList_append_g rfl (.tmp 7) (.tmp 8) 29 rfl x.heap.size 3 i0 _ 1 8 Try.underlying29 HI.out HZ0.out HZ1.out HZ2.out rfl (by decide) (.slice (some ⟨x.heap.size, 0, none⟩) 0 0) 0 [] rfl (World.ownsRow_lit x #[] 0 (Nat.le_refl _) (Nat.zero_le _) rfl) (some ⟨w.heap.size, 1, none⟩) 25 31 (i64s ((List.range 25).map (fun i => R (i + 1)))) rfl (by simp [i64s]) (.inr ⟨_, rfl, fun j u hu => by rw [Go.WideShapes.add_plain, cell_of_row _ _ _ _ _ _ HA2.out]; simpa using regs_sub R j u hu⟩) (i64_one _) (by decide) (by decide) (by simp) ?_); intro v5 w5 ho5 hg5; have HO5 := Lib.hid ho5; have HB5 := Lib.hid (((Below.refl x.heap.size x).alloc (Nat.le_refl _) _).grown hg5 (by simp) (fun q hq => by simp [Value.ownBlock] at hq; omega)); clear ho5 hg5)
    | fail)
  have XB5 := Lib.hid (XB.out.trans (HB5.out.mono XB.out.size))
  have HO5' := HO5.out
  rw [List.nil_append, Nat.zero_add] at HO5'
  obtain ⟨a5, c5, hv5, -⟩ := own_form HO5'
  subst hv5
  have HO6 := Lib.hid HO5'
  clear HO5 HO5'
  have hcell : ∀ wx, Below w.heap.size w wx → ∀ j, j < mem.length → wx.cell? ⟨b, off + j, none⟩ = some (.int .i64 (mem.getD j 0)) := fun wx hbx j hj => (hbx.cell (p := ⟨b, off + j, none⟩) HLT.out).trans (HC.out j hj)
  have HCL := Lib.hid hcell
  have c25 := hcell _ XB5.out 25 (by omega)
  have c26 := hcell _ XB5.out 26 (by omega)
  clear hcell
  have g25 : (25 : Int) < (mem.length : Nat) := by omega
  have g26 : (26 : Int) < (mem.length : Nat) := by omega
  have HNC : Hid (∀ (k : Nat) (u : Value), [Value.int .i64 (mem.getD 25 0), .int .i64 (mem.getD 26 0)][k]? = some u → ((w5.alloc (.cells #[.int .i64 (mem.getD 25 0), .int .i64 (mem.getD 26 0)] 3)).drew).cell? ((⟨w5.heap.size, 0, none⟩ : Addr).add k) = some u) := World.news_of_block (cs := #[.int .i64 (mem.getD 25 0), .int .i64 (mem.getD 26 0)]) (heap_alloc_new _ _)
  have HD5 : Hid (Below x.heap.size x ((w5.alloc (.cells #[.int .i64 (mem.getD 25 0), .int .i64 (mem.getD 26 0)] 3)).drew)) := (HB5.out.alloc HB5.out.size _).drew
  have hx5 := HB5.out.size
  go_upto_region 2 with fail
  go_region_law (first
    | (refine step_append_lies _ (by rfl) (.tmp 10) (.tmp 17) 29 (by rfl) x.heap.size 3 i0 _ 1 8 Try.underlying29 HI.out HZ0.out HZ1.out HZ2.out rfl (by decide) (.slice a5 25 c5) 25 (i64s ((List.range 25).map (fun i => R (i + 1)))) (by rfl) (by first | exact own_drewN (HO6.out.alloc _) 1 | exact (own_drewN HO6.out 1).alloc _) ⟨w5.heap.size, 0, none⟩ 2 2 [.int .i64 (mem.getD 25 0), .int .i64 (mem.getD 26 0)] (by rfl) (by rfl) HNC.out (by simp [Value.oneCell']) (by decide) (by decide) (by decide) (by simp; omega) (w5.heap.size + 1) (by simp) ?_; intro g cap6 w6 hown hgr hlb hlt; have HO7 := Lib.hid hown; have HB7 := Lib.hid (HD5.out.grown hgr (by have := HD5.out.size; exact this) (fun q hq => (HO6.out.lt q hq).1)); clear hown hgr hlb hlt)
    | fail)
  all_goals
    have HOz := HO7.out
    rw [rootL_zero R mem, show 25 + 2 = (rootL R mem 0).length by rw [rootL_len]] at HOz
    have HO8 := Lib.hid HOz
    have HA6 := Lib.hid ((HB7.out.block w.heap.size (by have := HZ.out; omega)).trans HA.out)
    have hs30 := HH30.out
    clear HO7 HOz HO6 HB5 XB5 HNC HD5 hx5 c25 c26 HA2
    go_wp2_with fail
    go_loopg [5, 6] s (fun g s5 s6 wx => ∃ (k : Nat), k ≤ s ∧ g = s - k ∧ s6 = .int .i64 (32 + (k : Int)) ∧ Hid (wx.ownsRow x.heap.size 3 1 s5 (rootL R mem k).length (i64s (rootL R mem k))) ∧ Hid (Below x.heap.size x wx))
    case atStart =>
      refine ⟨0, by omega, by omega, rfl, ?_, HB7⟩
      rw [rootL_len] at HO8 ⊢
      exact HO8
    case round =>
      obtain ⟨k, hk, rfl, rfl, HOk, HBk⟩ := hrel
      have HAk := Lib.hid ((HBk.out.block w.heap.size (by have := HZ.out; omega)).trans HA.out)
      have r30 : wr.cell? ⟨w.heap.size, 30, none⟩ = some (.int .i64 ((32 + s : Nat) : Int)) := by
        rw [cell_of_row _ _ _ _ _ _ HAk.out, ← HH30.out]
        simpa using regsV_get R (i := 30) (by decide)
      by_cases hlt : k < s
      · have g1 : 32 + (k : Int) < ((32 + s : Nat) : Int) := by omega
        have g2 : 32 + (k : Int) < (mem.length : Nat) := by omega
        have g0 : (0 : Int) ≤ 32 + (k : Int) := by omega
        have gn : (32 + (k : Int)).toNat = 32 + k := by omega
        have g4 : IntKind.i64.wrap (32 + (k : Int) + 1) = 32 + ((k + 1 : Nat) : Int) := by rw [IntKind.wrap_i64]; omega
        have ck := HCL.out wr (XB.out.trans (HBk.out.mono XB.out.size)) (32 + k) (by omega)
        obtain ⟨z, hz⟩ : ∃ z, mem.getD (32 + k) 0 = z := ⟨_, rfl⟩
        rw [hz] at ck
        have hrl := rootL_len R mem k
        go_wp2_with (first
          | (at_builtin; (refine wpList_push rfl (.tmp 31) (.tmp 36) rfl x.heap.size _ (rootL R mem k) z (by omega) rfl rfl HOk.out rfl HBk.out.size ?_); intro av cv w9 ho9 hg9 hl9; have HO9 := Lib.hid ho9; have HB9 := Lib.hid ((HBk.out.alloc HBk.out.size _).grown hg9 (by have := HBk.out.size; simp; omega) (fun q hq => (HOk.out.lt q hq).1)); clear ho9 hg9 hl9)
          | fail)
        go_roundg (s - (k + 1))
        case measure => omega
        case rel =>
          refine ⟨k + 1, by omega, rfl, by go_num, ?_, HB9⟩
          have h := HO9.out
          rw [← hz, rootL_next, rootL_len] at h
          rw [rootL_len]
          exact h
      · obtain rfl : k = s := by omega
        have g1 : ¬ 32 + (k : Int) < ((32 + k : Nat) : Int) := by omega
        go_wp2_with fail
        go_ret
        refine ⟨_, rfl, ?_, XB.out.trans (HBk.out.mono XB.out.size)⟩
        exact own_base HOk.out XB.out.size
end Gc
end Go.Proofs.Ytaldcgfhlflcpaa
namespace Go.Proofs.Ytaldcgfhlflcpaa
open Go.RowKit
set_option linter.unusedVariables false
set_option linter.unusedSimpArgs false
set_option maxRecDepth 100000
namespace Gc
def encs (p : Nat → Nat) (l : List W) : List Int := l.map (enc p)
def plcs (p : Nat → Nat) (l : List Nat) : List Int := l.map fun j => (p j : Int)
theorem encs_get (p : Nat → Nat) {l : List W} {k : Nat} {x : W} (h : l[k]? = some x) : (encs p l).getD k 0 = enc p x := by
  unfold encs
  rw [List.getD_eq_getElem?_getD, List.getElem?_map, h]
  rfl
theorem plcs_get (p : Nat → Nat) {l : List Nat} {k j : Nat} (h : l[k]? = some j) : (plcs p l).getD k 0 = p j := by
  unfold plcs
  rw [List.getD_eq_getElem?_getD, List.getElem?_map, h]
  rfl
theorem encs_app (p : Nat → Nat) (l m : List W) : encs p l ++ encs p m = encs p (l ++ m) := by simp [encs]
theorem plcs_app (p : Nat → Nat) (l m : List Nat) : plcs p l ++ plcs p m = plcs p (l ++ m) := by simp [plcs]
section
variable {e : E} {R : Nat → Int} {mem : List Int}
theorem roots_enc (h : e.Ok) (B : e.Bef R mem) : rootL R mem e.s = encs e.pl e.roots := by
  have hlen := h.nr
  refine List.ext_getElem? fun c => ?_
  by_cases hc : c < 27 + e.s
  · obtain ⟨x, hx⟩ : ∃ x, e.roots[c]? = some x := ⟨_, List.getElem?_eq_getElem (by omega)⟩
    have hr : (encs e.pl e.roots)[c]? = some (enc e.pl x) := by unfold encs; rw [List.getElem?_map, hx]; rfl
    rw [hr]
    unfold rootL
    by_cases c1 : c < 25
    · rw [List.append_assoc, List.getElem?_append_left (by simp; omega), List.getElem?_map, List.getElem?_range c1]
      simp only [Option.map_some]
      rw [B.reg c x c1 hx]
    · by_cases c2 : c < 27
      · rw [List.getElem?_append_left (by simp; omega), List.getElem?_append_right (by simp; omega)]
        have hf := B.frm c x (by omega) c2 hx
        simp only [List.length_map, List.length_range]
        have : c = 25 ∨ c = 26 := by omega
        rcases this with rfl | rfl
        · rw [← hf]; rfl
        · rw [← hf]; rfl
      · rw [List.getElem?_append_right (by simp; omega)]
        have hk := B.stk c x (by omega) hx
        simp only [List.length_append, List.length_map, List.length_range, List.length_cons, List.length_nil]
        rw [List.getElem?_map, List.getElem?_range (by omega)]
        simp only [Option.map_some]
        rw [← hk]
        congr 2
        omega
  · rw [List.getElem?_eq_none (by rw [rootL_len]; omega), List.getElem?_eq_none (by unfold encs; rw [List.length_map]; omega)]
end
def kO (e : E) (k : Nat) : List Nat := ord e.ws e.roots k
def kQ (e : E) (k : Nat) : List W := que e.ws e.roots (kO e k)
section
variable {e e' : E}
theorem kO_reach {k j : Nat} (h : j ∈ kO e k) : e.R j := ord_reach k j h
theorem kQ_reach {k c j : Nat} (h : (kQ e k)[c]? = some (.ref j)) : e.R j := que_reach (ord_reach k) (List.mem_of_getElem? h)
theorem kQ_raw (h : e.Ok) {k c : Nat} {z : Int} (hc : (kQ e k)[c]? = some (.raw z)) : z % 8 ≠ 1 := by
  have hm := List.mem_of_getElem? hc
  unfold kQ que at hm
  rcases List.mem_append.1 hm with hm | hm
  · exact h.rawR z hm
  · obtain ⟨j, hj, hm⟩ := List.mem_flatMap.1 hm
    exact h.rawW j z (kO_reach hj) hm
theorem kO_tot (h : e.Ok) (k : Nat) : tot e.sz (kO e k) ≤ e.size := h.fits _ (ord_nodup k) fun j hj => kO_reach hj
theorem kO_len (h : e.Ok) (k : Nat) : (kO e k).length ≤ tot e.sz (kO e k) := by
  generalize kO e k = l
  induction l with
  | nil => exact Nat.zero_le _
  | cons j l ih => simp only [List.length_cons, tot, E.sz]; omega
theorem kQ_len (h : e.Ok) (k : Nat) : (kQ e k).length ≤ 27 + e.s + e.size := by
  unfold kQ
  rw [que_len, h.nr]
  have h1 := kO_tot h k
  have h2 : tot (fun j => (e.ws j).length) (kO e k) ≤ tot e.sz (kO e k) := by
    generalize kO e k = l
    induction l with
    | nil => exact Nat.le_refl _
    | cons j l ih => simp only [tot, E.sz]; omega
  omega
theorem pl_inj (h : e.Ok) {i j : Nat} (hi : e.R i) (hj : e.R j) (he : e.pl i = e.pl j) : i = j := by
  by_cases hij : i = j
  · exact hij
  · have := h.apart i j hi hj hij
    unfold E.sz at this
    omega
theorem pl_small (h : e.Ok) {j : Nat} (hj : e.R j) : e.pl j + e.sz j ≤ e.len ∧ e.len ≤ 1048576 := ⟨Nat.le_trans (h.in_ j hj).2 h.top.1, h.small⟩
end
end Gc
end Go.Proofs.Ytaldcgfhlflcpaa
namespace Go.Proofs.Ytaldcgfhlflcpaa
open Go.RowKit
set_option linter.unusedVariables false
set_option linter.unusedSimpArgs false
set_option maxRecDepth 100000
namespace Gc
theorem wpList_load_r {P : Program} {ops : Array Oper} {rest : List Oper} {op : Oper} {a : Act} {w : World} {Q : Exit → Act → World → Prop} (ty : TypeId) (x : Operand) (ho : op.op = .load ty x) (hw : Region.wanted op (yielded ops a.tmps) = true)
    (b o : Nat) (hx : a.eval x = .pointer (some ⟨b, o, none⟩)) (cs : List Value) (d : TypeDesc) (hc : w.rangeAt b o cs)
    (hu : P.underlying ty = some d) (hd : d.isRow = true) (hi : (P.info? ty).map (·.size) = some cs.length)
    (h : wpList P ops Q rest (a.put op.dst (.agg cs.toArray)) w) : wpList P ops Q (op :: rest) a w := by
  unfold wpList
  rw [if_pos hw]
  exact .inl (wp_load_mid ty x ho b o hx cs d hc hu hd hi h)
theorem regsV_size (R : Nat → Int) : (Try.prog.info? 30).map (·.size) = some (regsV R).length := by
  unfold regsV
  rw [List.length_map, List.length_range]; kernel_rfl
theorem regs_rangeAt {w : World} {k : Nat} {R : Nat → Int} (h : w.heap[k]? = some (.cells (regsV R).toArray 30 (0, 0))) : w.rangeAt k 0 (regsV R) := by
  intro j v hj
  rw [cell_of_row _ _ _ _ _ _ h]
  simpa using hj
theorem own_ints_len {w : World} {B n : Nat} {v : Value} {l : List Int} (h : w.ownsRow B 3 1 v l.length (i64s l)) (hl : l.length = n) : ∃ a c, v = .slice a n c ∧ Sl w (.slice a n c) (i64s l) := by
  obtain ⟨a, c, e, hs⟩ := own_ints_at h
  subst hl
  exact ⟨a, c, e, hs⟩
theorem rs4_init {w1 w2 : World} {B : Nat} {v1 v2 : Value} {l1 l2 : List Int} (o1 : w1.ownsRow B 3 1 v1 l1.length (i64s l1)) (hb : Below w1.heap.size w1 w2) (o2 : w2.ownsRow w1.heap.size 3 1 v2 l2.length (i64s l2)) (hB : B ≤ w1.heap.size) :
    Rs4 B ((w2.alloc (.cells #[] 3)).alloc (.cells #[] 3)) v1 v2 (.slice (some ⟨w2.heap.size, 0, none⟩) 0 0) (.slice (some ⟨w2.heap.size + 1, 0, none⟩) 0 0) l1 l2 [] [] := by
  have hz := hb.size
  have hz1 : (w2.alloc (.cells #[] 3)).heap.size = w2.heap.size + 1 := by simp
  have p3 := World.ownsRow_lit (base := B) (e := 3) (size := 1) w2 #[] 0 (by omega) (Nat.zero_le _) rfl
  have p4 := World.ownsRow_lit (base := B) (e := 3) (size := 1) (w2.alloc (.cells #[] 3)) #[] 0 (by omega) (Nat.zero_le _) rfl
  rw [hz1] at p4
  have b2 : Below w1.heap.size w1 ((w2.alloc (.cells #[] 3)).alloc (.cells #[] 3)) := (hb.alloc hz _).alloc (by rw [hz1]; omega) _
  have k1 := own_keep21 o1 b2
  have k2 := (((own_base o2 hB).alloc (.cells #[] 3)).alloc (.cells #[] 3))
  have t1 := o1.lt
  have t2 := o2.lt
  refine ⟨k1, k2, p3.alloc _, p4, ?_, ?_, ?_, ?_, ?_, ?_⟩
  · intro c h1 h2; have := t1 c h1; have := t2 c h2; omega
  · intro c h1 h2; have := t1 c h1; simp [Value.ownBlock] at h2; omega
  · intro c h1 h2; have := t1 c h1; simp [Value.ownBlock] at h2; omega
  · intro c h1 h2; have := t2 c h1; simp [Value.ownBlock] at h2; omega
  · intro c h1 h2; have := t2 c h1; simp [Value.ownBlock] at h2; omega
  · intro c h1 h2; simp [Value.ownBlock] at h1 h2; omega
theorem dec_snoc (l : List Nat) {j j' : Nat} (h : ¬ j' = j) : decide (j ∈ l ++ [j']) = decide (j ∈ l) := by
  have : (j ∈ l ++ [j']) = (j ∈ l) := propext ⟨fun hh => by
    rcases List.mem_append.1 hh with h1 | h1
    · exact h1
    · rw [List.mem_singleton] at h1; exact absurd h1.symm h, fun hh => List.mem_append_left _ hh⟩
  simp only [this]
set_option maxHeartbeats 16000000 in
theorem alike_any (e e' : E) (h : e.Ok) (h' : e'.Ok) (L : Like e e') (R R' : Nat → Int) (mem mem' : List Int) (B : e.Bef R mem) (B' : e'.Bef R' mem') (N : Nat) (hN : Alive e N) (lo hi : Int) (hlo : ∀ j, e.R j → lo ≤ (e'.pl j : Int) ∧ ((e'.pl j + e'.sz j : Nat) : Int) ≤ hi) (hss : e.s ≤ 60) (hsz : e.size ≤ 500) (a a' : Option Addr) (cap cap' : Nat) (w : World) (hs : Sl w (.slice a mem.length cap) (i64s mem)) (hs' : Sl w (.slice a' mem'.length cap') (i64s mem')) :
    Calls Try.prog 10 #[.slice a mem.length cap, .agg (regsV R).toArray, .slice a' mem'.length cap', .agg (regsV R').toArray, .int .i64 lo, .int .i64 hi] w fun en w' => en = .returned (.tuple #[.int .i64 (N : Nat), .bool true]) ∧ Below w.heap.size w w' := by
  have HS := Lib.hid hs
  have HS' := Lib.hid hs'
  have HLO := Lib.hid hlo
  have HRT := Lib.hid (roots_enc h B)
  have HRT' : Hid (rootL R' mem' e'.s = encs e'.pl e.roots) := by unfold Hid; rw [roots_enc h' B', L.roots]
  have hl1 := B.len
  have hl2 := B'.len
  have HLN := Lib.hid hl1
  have HLN' := Lib.hid hl2
  have HSM := Lib.hid h.small
  have HSM' := Lib.hid h'.small
  have HT : Hid (32 + e.s ≤ mem.length ∧ 32 + e'.s ≤ mem'.length) := by
    have t1 := h.low; have t2 := h.low'; have t3 := h.top
    have t4 := h'.low; have t5 := h'.low'; have t6 := h'.top
    unfold Hid; omega
  clear hs hs' hlo hl1 hl2
  go_enter Try.func10, Try.ntmps10
  go_upto_region 1 with fail
  have XA := Lib.hid (((Below.refl w.heap.size w).alloc (Nat.le_refl _) (.cells (regsV R).toArray 30)).alloc (by simp) (.cells (regsV R').toArray 30))
  have HA := Lib.hid ((heap_alloc_old (w.alloc (.cells (regsV R).toArray 30)) (.cells (regsV R').toArray 30) (by simp)).trans (heap_alloc_new w (.cells (regsV R).toArray 30)))
  have HA' := Lib.hid (heap_alloc_new (w.alloc (.cells (regsV R).toArray 30)) (.cells (regsV R').toArray 30))
  have HZ : Hid (((w.alloc (.cells (regsV R).toArray 30)).alloc (.cells (regsV R').toArray 30)).heap.size = w.heap.size + 2) := by unfold Hid; simp
  rw [show (w.alloc (.cells (regsV R).toArray 30)).heap.size = w.heap.size + 1 by simp] at HA'
  generalize (w.alloc (.cells (regsV R).toArray 30)).alloc (.cells (regsV R').toArray 30) = x at XA HA HA' HZ ⊢
  have RA := Lib.hid (regs_rangeAt HA.out)
  have HQ := Lib.hid (regsV_size R)
  have HQ' := Lib.hid (regsV_size R')
  have HSx := Lib.hid (HS.out.below XA.out (Nat.le_refl _))
  go_wp2_with (first
    | (refine wpList_load_r 30 (.tmp 7) rfl rfl w.heap.size 0 rfl (regsV R) _ RA.out Try.underlying30 rfl HQ.out ?_)
    | fail)
  with_reducible refine (roots_any R mem a cap e.s x HSx.out HT.out.1 (by have := HLN.out; have := HSM.out; omega) B.r30).mono ?_
  rintro en w1 ⟨v1, rfl, ho1, hb1⟩
  have HO1 := Lib.hid ho1
  have HB1 := Lib.hid hb1
  clear ho1 hb1
  have HA1 := Lib.hid ((HB1.out.block (w.heap.size + 1) (by have := HZ.out; omega)).trans HA'.out)
  have RA' := Lib.hid (regs_rangeAt HA1.out)
  have HSx' := Lib.hid (HS'.out.below (XA.out.trans (HB1.out.mono XA.out.size)) (Nat.le_refl _))
  go_wp2_with (first
    | (refine wpList_load_r 30 (.tmp 9) rfl rfl (w.heap.size + 1) 0 rfl (regsV R') _ RA'.out Try.underlying30 rfl HQ'.out ?_)
    | fail)
  with_reducible refine (roots_any R' mem' a' cap' e'.s w1 HSx'.out HT.out.2 (by have := HLN'.out; have := HSM'.out; omega) B'.r30).mono ?_
  rintro en w2 ⟨v2, rfl, ho2, hb2⟩
  have HO2 := Lib.hid ho2
  have HB2 := Lib.hid hb2
  clear ho2 hb2
  have HR0 : Hid (Rs4 x.heap.size ((w2.alloc (.cells #[] 3)).alloc (.cells #[] 3)) v1 v2 (.slice (some ⟨w2.heap.size, 0, none⟩) 0 0) (.slice (some ⟨w2.heap.size + 1, 0, none⟩) 0 0) (encs e.pl (kQ e 0)) (encs e'.pl (kQ e 0)) (plcs e.pl (kO e 0)) (plcs e'.pl (kO e 0))) := by
    have h0 : kQ e 0 = e.roots := by unfold kQ kO que ord; simp
    have o1 := HO1.out
    have o2 := HO2.out
    rw [HRT.out] at o1
    rw [HRT'.out] at o2
    rw [h0]
    exact rs4_init o1 HB2.out o2 HB1.out.size
  have XR : Hid (Below x.heap.size x ((w2.alloc (.cells #[] 3)).alloc (.cells #[] 3))) := ((HB1.out.trans (HB2.out.mono HB1.out.size)).alloc (Nat.le_trans HB1.out.size HB2.out.size) _).alloc (by have := HB1.out.size; have := HB2.out.size; simp; omega) _
  obtain ⟨b, off, rfl, hbb, hcc⟩ := int_at HS.out rfl (by have := HT.out; omega)
  obtain ⟨b', off', rfl, hbb', hcc'⟩ := int_at HS'.out rfl (by have := HT.out; omega)
  have HCM : Hid (∀ wx, Below w.heap.size w wx → ∀ j, j < mem.length → wx.cell? ⟨b, off + j, none⟩ = some (.int .i64 (mem.getD j 0))) := fun wx hbx j hj => (hbx.cell (p := ⟨b, off + j, none⟩) hbb).trans (hcc j hj)
  have HCM' : Hid (∀ wx, Below w.heap.size w wx → ∀ j, j < mem'.length → wx.cell? ⟨b', off' + j, none⟩ = some (.int .i64 (mem'.getD j 0))) := fun wx hbx j hj => (hbx.cell (p := ⟨b', off' + j, none⟩) hbb').trans (hcc' j hj)
  have n1 := rootL_len R mem e.s
  have n2 := rootL_len R' mem' e'.s
  rw [L.s] at n2
  obtain ⟨a1, c1, rfl, hsl1⟩ := own_ints_len HO1.out n1
  obtain ⟨a2, c2, rfl, hsl2⟩ := own_ints_len (n := 27 + e.s) HO2.out (by rw [L.s]; exact n2)
  clear hsl1 hsl2 n1 n2 HO1 HO2 hcc hcc' RA RA' HQ HQ' HSx HSx' HA HA' HA1 HRT HRT' hbb hbb'
  go_upto_region 8 with fail
  generalize (w2.alloc (.cells #[] 3)).alloc (.cells #[] 3) = y at HR0 XR ⊢
  have HQ0 : Hid ((kQ e 0).length = 27 + e.s) := by
    have h0 : kQ e 0 = e.roots := by unfold kQ kO que ord; simp
    unfold Hid
    rw [h0, h.nr]
  go_wp2_with fail
  go_loopg [14, 15, 16, 17, 18, 19] (27 + e.s + e.size) (fun g s14 s15 s16 s17 s18 s19 wx => ∃ (k : Nat), k ≤ (kQ e k).length ∧ g = 27 + e.s + e.size - k ∧ s18 = .int .i64 (tot e.sz (kO e k) : Nat) ∧ s19 = .int .i64 (k : Nat) ∧ Hid (Rs4 x.heap.size wx s14 s15 s16 s17 (encs e.pl (kQ e k)) (encs e'.pl (kQ e k)) (plcs e.pl (kO e k)) (plcs e'.pl (kO e k))) ∧ Hid (Below x.heap.size x wx))
  case atStart => exact ⟨0, Nat.zero_le _, rfl, rfl, rfl, HR0, XR⟩
  case round =>
    obtain ⟨k, hkl, rfl, rfl, rfl, HRk, HBk⟩ := hrel
    have hq := kQ_len h k
    obtain ⟨ln, hnq⟩ : ∃ ln, (kQ e k).length = ln := ⟨_, rfl⟩
    rw [hnq] at hkl hq
    have HNQ := Lib.hid hnq
    have XW := Lib.hid (XA.out.trans (HBk.out.mono XA.out.size))
    obtain ⟨a0, c0, rfl, hsl0⟩ := own_ints_len (n := ln) HRk.out.o0 (by unfold encs; rw [List.length_map]; exact hnq)
    obtain ⟨a1, c1, rfl, hsl1⟩ := own_ints_len (n := ln) HRk.out.o1 (by unfold encs; rw [List.length_map]; exact hnq)
    by_cases hk : k < ln
    · obtain ⟨xw, hx⟩ : ∃ xw, (kQ e k)[k]? = some xw := ⟨_, List.getElem?_eq_getElem (by omega)⟩
      obtain ⟨b0, o0, rfl, hb0, hc0⟩ := int_at hsl0 (by unfold encs; rw [List.length_map]; exact hnq) (by omega)
      obtain ⟨b1, o1, rfl, hb1, hc1⟩ := int_at hsl1 (by unfold encs; rw [List.length_map]; exact hnq) (by omega)
      have ct := hc0 k hk
      have cu := hc1 k hk
      rw [encs_get _ hx] at ct cu
      have g0 : (0 : Int) ≤ (k : Int) := by omega
      have g1 : (k : Int) < (ln : Int) := by omega
      have g4 : IntKind.i64.wrap ((k : Int) + 1) = (k : Int) + 1 := by rw [IntKind.wrap_i64]; omega
      clear hc0 hc1 hsl0 hsl1 hb0 hb1
      cases xw with
      | raw z =>
        rw [show enc e.pl (.raw z) = z from rfl] at ct
        rw [show enc e'.pl (.raw z) = z from rfl] at cu
        have hz := kQ_raw h hx
        have h7 := Rs.i64_mask 3 (by omega) z
        rw [show ((2 ^ 3 - 1 : Nat) : Int) = 7 from rfl, show ((2 ^ 3 : Nat) : Int) = 8 from rfl] at h7
        generalize z % 8 = r at hz h7
        have hO : kO e (k + 1) = kO e k := ord_raw hx
        have hQ : kQ e (k + 1) = kQ e k := by unfold kQ; rw [hO]
        have HX := Lib.hid hx
        clear hx
        go_wp2_with fail
        go_quiet (fail)
        go_wp2_with fail
        go_roundg (27 + e.s + e.size - (k + 1))
        case measure => omega
        case rel =>
          refine ⟨k + 1, by rw [hQ, hnq]; omega, rfl, by rw [hO], by go_num, ?_, below_drewN HBk.out _⟩
          rw [hO, hQ]
          exact HRk.out.below (below_drewN (Below.refl _ _) _)
      | ref j =>
        rw [show enc e.pl (.ref j) = 8 * (e.pl j : Int) + 1 from rfl] at ct
        rw [show enc e'.pl (.ref j) = 8 * (e'.pl j : Int) + 1 from rfl] at cu
        have hRj := kQ_reach hx
        have hRj' : e'.R j := (L.R j).2 hRj
        obtain ⟨p, hp⟩ : ∃ p, e.pl j = p := ⟨_, rfl⟩
        obtain ⟨q, hqj⟩ : ∃ q, e'.pl j = q := ⟨_, rfl⟩
        rw [hp] at ct
        rw [hqj] at cu
        have s7p : bits .and .i64 (8 * (p : Int) + 1) 7 = 1 := by
          have := Rs.i64_mask 3 (by omega) (8 * (p : Int) + 1)
          rw [show ((2 ^ 3 - 1 : Nat) : Int) = 7 from rfl, show ((2 ^ 3 : Nat) : Int) = 8 from rfl] at this
          rw [this]; omega
        have s7q : bits .and .i64 (8 * (q : Int) + 1) 7 = 1 := by
          have := Rs.i64_mask 3 (by omega) (8 * (q : Int) + 1)
          rw [show ((2 ^ 3 - 1 : Nat) : Int) = 7 from rfl, show ((2 ^ 3 : Nat) : Int) = 8 from rfl] at this
          rw [this]; omega
        have s8p : (8 * (p : Int) + 1) / 8 = (p : Int) := by omega
        have s8q : (8 * (q : Int) + 1) / 8 = (q : Int) := by omega
        obtain ⟨mk, hmk⟩ : ∃ mk, (kO e k).length = mk := ⟨_, rfl⟩
        obtain ⟨a2, c2, rfl, hsl2⟩ := own_ints_len (n := mk) HRk.out.o2 (by unfold plcs; rw [List.length_map]; exact hmk)
        obtain ⟨a3, c3, rfl, hsl3⟩ := own_ints_len (n := mk) HRk.out.o3 (by unfold plcs; rw [List.length_map]; exact hmk)
        have HX := Lib.hid hx
        have HRJ := Lib.hid hRj
        have HP := Lib.hid hp
        have HQJ := Lib.hid hqj
        have HMK := Lib.hid hmk
        have HSL2 := Lib.hid hsl2
        have HSL3 := Lib.hid hsl3
        clear hx hp hqj hsl2 hsl3 hRj'
        have hmks : mk ≤ 500 := by have := kO_len h k; have := kO_tot h k; omega
        go_wp2_with fail
        go_quiet (fail)
        obtain ⟨y2, hy2⟩ : ∃ y2, wr.drewN nq = y2 := ⟨_, rfl⟩
        have XY : Hid (Below wr.heap.size wr y2) := by unfold Hid; rw [← hy2]; exact below_drewN (Below.refl _ _) _
        rw [hy2]
        clear hy2 ct cu
        go_wp2_with fail
        go_loopg [24, 25] mk (fun g s24 s25 wx => ∃ (i : Nat), i ≤ mk ∧ g = mk - i ∧ s24 = .bool (decide (j ∈ (kO e k).take i)) ∧ s25 = .int .i64 (i : Nat) ∧ Hid (Below wr.heap.size wr wx))
        case atStart => exact ⟨0, by omega, rfl, by simp, rfl, XY⟩
        case round =>
          obtain ⟨i, hik, rfl, rfl, rfl, HBi⟩ := hrel
          have gi0 : (0 : Int) ≤ (i : Int) := by omega
          have gi4 : IntKind.i64.wrap ((i : Int) + 1) = (i : Int) + 1 := by rw [IntKind.wrap_i64]; omega
          by_cases hlt : i < mk
          · obtain ⟨j', hj'⟩ : ∃ j', (kO e k)[i]? = some j' := ⟨_, List.getElem?_eq_getElem (by have := HMK.out; omega)⟩
            have hRj2 := kO_reach (List.mem_of_getElem? hj')
            obtain ⟨b2, o2, rfl, hb2, hc2⟩ := int_at HSL2.out (by unfold plcs; rw [List.length_map]; exact HMK.out) (by omega)
            obtain ⟨b3, o3, rfl, hb3, hc3⟩ := int_at HSL3.out (by unfold plcs; rw [List.length_map]; exact HMK.out) (by omega)
            have co := (HBi.out.cell (p := ⟨b2, o2 + i, none⟩) hb2).trans (hc2 i hlt)
            have cn := (HBi.out.cell (p := ⟨b3, o3 + i, none⟩) hb3).trans (hc3 i hlt)
            rw [plcs_get _ hj'] at co cn
            have htk : (kO e k).take (i + 1) = (kO e k).take i ++ [j'] := by rw [List.take_add_one, hj']; rfl
            have gi1 : (i : Int) < (mk : Int) := by omega
            obtain ⟨sb, hsb⟩ : ∃ sb, decide (j ∈ (kO e k).take i) = sb := ⟨_, rfl⟩
            have hpi : e.pl j' = p → j' = j := fun he => pl_inj h hRj2 HRJ.out (he.trans HP.out.symm)
            have hqi : e'.pl j' = q → j' = j := fun he => pl_inj h' ((L.R j').2 hRj2) ((L.R j).2 HRJ.out) (he.trans HQJ.out.symm)
            rw [hsb]
            have HSB := Lib.hid hsb
            have HTK := Lib.hid htk
            clear hc2 hc3 hsb htk hj' hb2 hb3
            by_cases hjj : j' = j
            · have ep : e.pl j' = p := by rw [hjj]; exact HP.out
              have eq' : e'.pl j' = q := by rw [hjj]; exact HQJ.out
              rw [ep] at co
              rw [eq'] at cn
              clear hpi hqi ep eq'
              cases sb
              all_goals
                go_wp2_with fail
                go_quiet (fail)
                go_wp2_with fail
                go_roundg (mk - (i + 1))
                case measure => omega
                case rel => exact ⟨i + 1, by omega, rfl, by rw [HTK.out]; simp [hjj], by go_num, below_drewN HBi.out _⟩
            · have np : ¬ ((e.pl j' : Nat) : Int) = (p : Int) := fun he => hjj (hpi (by omega))
              have nq' : ¬ ((e'.pl j' : Nat) : Int) = (q : Int) := fun he => hjj (hqi (by omega))
              generalize e.pl j' = p' at co np
              generalize e'.pl j' = q' at cn nq'
              have np2 : ¬ p' = p := fun he => np (by rw [he])
              have nq2 : ¬ q' = q := fun he => nq' (by rw [he])
              have npb : ((p' : Int) == (p : Int)) = false := by rw [beq_eq_false_iff_ne]; exact np
              have nqb : ((q' : Int) == (q : Int)) = false := by rw [beq_eq_false_iff_ne]; exact nq'
              clear hpi hqi
              cases sb
              all_goals
                go_wp2_with fail
                go_quiet (fail)
                go_wp2_with fail
                go_roundg (mk - (i + 1))
                case measure => omega
                case rel =>
                  exact ⟨i + 1, by omega, rfl, by rw [HTK.out, dec_snoc _ hjj, HSB.out], by go_num, below_drewN HBi.out _⟩
          · obtain rfl : i = mk := by omega
            have htk : (kO e k).take i = kO e k := List.take_of_length_le (by have := HMK.out; omega)
            rw [htk]
            have XWi := Lib.hid (XW.out.trans (HBi.out.mono XW.out.size))
            have HRi := Lib.hid (HRk.out.below HBi.out)
            clear htk
            by_cases hj : j ∈ kO e k
            · have hO : kO e (k + 1) = kO e k := ord_old HX.out hj
              have hQ : kQ e (k + 1) = kQ e k := by unfold kQ; rw [hO]
              rw [decide_eq_true hj]
              go_wp2_with fail
              go_roundg (27 + e.s + e.size - (k + 1))
              case measure => omega
              case rel =>
                refine ⟨k + 1, by rw [hQ, HNQ.out]; omega, rfl, by rw [hO], by go_num, ?_, HBk.out.trans (HBi.out.mono HBk.out.size)⟩
                rw [hO, hQ]
                exact HRi
            · have hO : kO e (k + 1) = kO e k ++ [j] := ord_new HX.out hj
              rw [decide_eq_false hj]
              obtain ⟨n, hn⟩ : ∃ n, (e.ws j).length = n := ⟨_, rfl⟩
              have HN := Lib.hid hn
              have hszj : e.sz j = 1 + n := by unfold E.sz; rw [hn]
              have hszj' : e'.sz j = 1 + n := by unfold E.sz; rw [L.ws, hn]
              have hRj := HRJ.out
              have hps := pl_small h hRj
              have hqs := pl_small h' ((L.R j).2 hRj)
              have hlq := HLO.out j hRj
              have hhd := h.head j hRj
              have hme := B.head j hRj
              have hme' := B'.head j ((L.R j).2 hRj)
              rw [L.hd] at hme'
              rw [HP.out, hszj, ← HLN.out] at hps
              rw [HQJ.out, hszj', ← HLN'.out] at hqs
              rw [HQJ.out, hszj'] at hlq
              rw [HP.out] at hme
              rw [HQJ.out] at hme'
              rw [hn] at hhd
              have cp := HCM.out wr XWi.out p (by omega)
              have cq := HCM'.out wr XWi.out q (by omega)
              rw [hme] at cp
              rw [hme'] at cq
              have HSi := Lib.hid (HS.out.below XWi.out (Nat.le_refl _))
              have HSZ := Lib.hid (size_any mem (some ⟨b, off, none⟩) cap p wr HSi.out (by omega))
              rw [hme, hhd.2] at HSZ
              have HHD := Lib.hid hhd
              have HME := Lib.hid hme
              have HTOT := Lib.hid (kO_tot h (k + 1))
              rw [hO, tot_append, show tot e.sz [j] = 1 + n from by simp only [tot]; omega] at HTOT
              generalize e.hd j = hd at cp cq
              have j1 : (0 : Int) ≤ (p : Int) := by omega
              have j2 : (p : Int) < (mem.length : Nat) := by omega
              have j3 : (0 : Int) ≤ (q : Int) := by omega
              have j4 : (q : Int) < (mem'.length : Nat) := by omega
              have j5 : lo ≤ (q : Int) := hlq.1
              have j6 : (q : Int) < hi := by omega
              have j7 : (q : Int) + (n : Int) < hi := by omega
              have j8 : (q : Int) + (n : Int) < (mem'.length : Nat) := by omega
              have j9 : IntKind.i64.wrap ((q : Int) + (n : Int)) = (q : Int) + (n : Int) := by rw [IntKind.wrap_i64]; omega
              have jA : IntKind.i64.wrap (1 + (n : Int)) = 1 + (n : Int) := by rw [IntKind.wrap_i64]; omega
              have jB : IntKind.i64.wrap ((tot e.sz (kO e k) : Nat) + (1 + (n : Int))) = ((tot e.sz (kO e k) + (1 + n) : Nat) : Int) := by have := HTOT.out; rw [IntKind.wrap_i64]; omega
              have d1 : decide ((q : Int) < lo) = false := decide_eq_false (by omega)
              have d2 : decide (hi ≤ (q : Int)) = false := decide_eq_false (by omega)
              have d3 : decide (((mem'.length : Nat) : Int) ≤ (q : Int)) = false := decide_eq_false (by omega)
              have d4 : decide (hi ≤ (q : Int) + (n : Int)) = false := decide_eq_false (by omega)
              have d5 : decide (((mem'.length : Nat) : Int) ≤ (q : Int) + (n : Int)) = false := decide_eq_false (by omega)
              have d6 : decide (mem'.length ≤ q) = false := decide_eq_false (by omega)
              have d7 : decide (mem'.length ≤ q + n) = false := decide_eq_false (by omega)
              have d8 : decide (hi ≤ ((q + n : Nat) : Int)) = false := decide_eq_false (by omega)
              clear hme hme' hhd hn hszj hszj'
              go_wp2_with fail
              with_reducible refine HSZ.out.mono ?_
              rintro en w4 ⟨rfl, rfl⟩
              go_wp2_with fail
              go_quiet (fail)
              obtain ⟨y3, hy3⟩ : ∃ y3, wr.drewN nq = y3 := ⟨_, rfl⟩
              have HR3 := Lib.hid (HRi.out.below (below_drewN (Below.refl _ _) nq))
              have XB3 := Lib.hid (below_drewN (HBk.out.trans (HBi.out.mono HBk.out.size)) nq)
              rw [hy3] at HR3 XB3 ⊢
              clear hy3 cp cq
              clear d1 d2 d3 d4 d5 d6 d7 d8
              have hko : (kO e k).length ≤ 500 := by have := HMK.out; omega
              have hpl1 : (plcs e.pl (kO e k)).length ≤ 100000000 := by unfold plcs; rw [List.length_map]; omega
              have hpl2 : (plcs e'.pl (kO e k)).length ≤ 100000000 := by unfold plcs; rw [List.length_map]; omega
              go_wp2_with (first
                | (at_builtin; refine wpList_push rfl (.tmp 149) (.tmp 151) rfl x.heap.size _ (plcs e.pl (kO e k)) (p : Int) hpl1 rfl rfl HR3.out.o2 rfl XB3.out.size ?_; intro av cv w5 ho5 hg5 hl5; have HR5 := Lib.hid (HR3.out.push2 ho5 hg5 hl5); have XB5 := Lib.hid ((XB3.out.alloc XB3.out.size _).grown hg5 (by have := XB3.out.size; simp; omega) (fun q hq => (HR3.out.o2.lt q hq).1)); clear ho5 hg5 hl5)
                | (at_builtin; refine wpList_push rfl (.tmp 153) (.tmp 155) rfl x.heap.size _ (plcs e'.pl (kO e k)) (q : Int) hpl2 rfl rfl HR5.out.o3 rfl XB5.out.size ?_; intro av6 cv6 w6 ho6 hg6 hl6; have HR6 := Lib.hid (HR5.out.push3 ho6 hg6 hl6); have XB6 := Lib.hid ((XB5.out.alloc XB5.out.size _).grown hg6 (by have := XB5.out.size; simp; omega) (fun q hq => (HR5.out.o3.lt q hq).1)); clear ho6 hg6 hl6)
                | fail)
              have hp2 : plcs e.pl (kO e k) ++ [(p : Int)] = plcs e.pl (kO e (k + 1)) := by rw [hO, ← plcs_app, ← HP.out]; rfl
              have hq2 : plcs e'.pl (kO e k) ++ [(q : Int)] = plcs e'.pl (kO e (k + 1)) := by rw [hO, ← plcs_app, ← HQJ.out]; rfl
              have HR7 := HR6.out
              clear HR5 HR3 HR6 XB5 XB3
              go_loopg [14, 15, 27] n (fun g s14 s15 s27 wx => ∃ (i : Nat), 1 ≤ i ∧ i ≤ n + 1 ∧ g = n + 1 - i ∧ s27 = .int .i64 (i : Nat) ∧ Hid (Rs4 x.heap.size wx s14 s15 (.slice av (plcs e.pl (kO e k) ++ [(p : Int)]).length cv) (.slice av6 (plcs e'.pl (kO e k) ++ [(q : Int)]).length cv6) (encs e.pl (kQ e k ++ (e.ws j).take (i - 1))) (encs e'.pl (kQ e k ++ (e.ws j).take (i - 1))) (plcs e.pl (kO e (k + 1))) (plcs e'.pl (kO e (k + 1)))) ∧ Hid (Below x.heap.size x wx))
              case atStart =>
                refine ⟨1, by omega, by omega, by omega, rfl, ?_, XB6⟩
                rw [show (e.ws j).take (1 - 1) = [] from rfl, List.append_nil]
                rw [← hp2, ← hq2]
                exact HR7
              case round =>
                obtain ⟨i, hi1, hi2, rfl, rfl, HRr, HBr⟩ := hrel
                by_cases hlt : i ≤ n
                · obtain ⟨x', hx'⟩ : ∃ x', (e.ws j)[i - 1]? = some x' := ⟨_, List.getElem?_eq_getElem (by have := HN.out; omega)⟩
                  have hb1 := B.body j HRJ.out (i - 1) x' hx'
                  have hb2 := B'.body j ((L.R j).2 HRJ.out) (i - 1) x' (by rw [L.ws]; exact hx')
                  rw [HP.out, show p + 1 + (i - 1) = p + i by omega] at hb1
                  rw [HQJ.out, show q + 1 + (i - 1) = q + i by omega] at hb2
                  have XWr := Lib.hid (XA.out.trans (HBr.out.mono XA.out.size))
                  have cp := HCM.out wr XWr.out (p + i) (by omega)
                  have cq := HCM'.out wr XWr.out (q + i) (by omega)
                  rw [hb1] at cp
                  rw [hb2] at cq
                  have htk : (e.ws j).take i = (e.ws j).take (i - 1) ++ [x'] := by
                    rw [show i = (i - 1) + 1 by omega, List.take_add_one, Nat.add_sub_cancel, hx']
                    rfl
                  have HTK := Lib.hid htk
                  have q1 : (i : Int) ≤ (n : Int) := by omega
                  have q2 : (p : Int) + (i : Int) < (mem.length : Nat) := by omega
                  have q3 : (0 : Int) ≤ (p : Int) + (i : Int) := by omega
                  have q4 : ((p : Int) + (i : Int)).toNat = p + i := by omega
                  have q5 : IntKind.i64.wrap ((p : Int) + (i : Int)) = (p : Int) + (i : Int) := by rw [IntKind.wrap_i64]; omega
                  have r2 : (q : Int) + (i : Int) < (mem'.length : Nat) := by omega
                  have r3 : (0 : Int) ≤ (q : Int) + (i : Int) := by omega
                  have r4 : ((q : Int) + (i : Int)).toNat = q + i := by omega
                  have r5 : IntKind.i64.wrap ((q : Int) + (i : Int)) = (q : Int) + (i : Int) := by rw [IntKind.wrap_i64]; omega
                  have q6 : IntKind.i64.wrap ((i : Int) + 1) = (i : Int) + 1 := by rw [IntKind.wrap_i64]; omega
                  have hlq1 : (encs e.pl (kQ e k ++ (e.ws j).take (i - 1))).length ≤ 100000000 := by unfold encs; rw [List.length_map, List.length_append, List.length_take]; have := HNQ.out; omega
                  have hlq2 : (encs e'.pl (kQ e k ++ (e.ws j).take (i - 1))).length ≤ 100000000 := by unfold encs; rw [List.length_map, List.length_append, List.length_take]; have := HNQ.out; omega
                  clear hb1 hb2 hx' htk
                  obtain ⟨z1, hz1⟩ : ∃ z, enc e.pl x' = z := ⟨_, rfl⟩
                  obtain ⟨z2, hz2⟩ : ∃ z, enc e'.pl x' = z := ⟨_, rfl⟩
                  rw [hz1] at cp
                  rw [hz2] at cq
                  have HZ1 := Lib.hid hz1
                  have HZ2 := Lib.hid hz2
                  have HCQ : Hid (∀ wx, Below x.heap.size x wx → wx.cell? ⟨b', off' + (q + i), none⟩ = some (.int .i64 z2)) := fun wx hbx => by
                    have := HCM'.out wx (XA.out.trans (hbx.mono XA.out.size)) (q + i) (by omega)
                    have h0 := HCM'.out wr XWr.out (q + i) (by omega)
                    rw [cq] at h0
                    rw [this, ← h0]
                  clear hz1 hz2 cq
                  go_wp2_with (first
                    | (at_builtin; refine wpList_push rfl (.tmp 166) (.tmp 173) rfl x.heap.size _ (encs e.pl (kQ e k ++ (e.ws j).take (i - 1))) z1 hlq1 rfl rfl HRr.out.o0 rfl HBr.out.size ?_; intro av7 cv7 w7 ho7 hg7 hl7; have HR7b := Lib.hid (HRr.out.push0 ho7 hg7 hl7); have XB7 := Lib.hid ((HBr.out.alloc HBr.out.size _).grown hg7 (by have := HBr.out.size; simp; omega) (fun q hq => (HRr.out.o0.lt q hq).1)); have cq := HCQ.out w7 XB7.out; clear ho7 hg7 hl7)
                    | (at_builtin; refine wpList_push rfl (.tmp 175) (.tmp 182) rfl x.heap.size _ (encs e'.pl (kQ e k ++ (e.ws j).take (i - 1))) z2 hlq2 rfl rfl HR7b.out.o1 rfl XB7.out.size ?_; intro av8 cv8 w8 ho8 hg8 hl8; have HR8 := Lib.hid (HR7b.out.push1 ho8 hg8 hl8); have XB8 := Lib.hid ((XB7.out.alloc XB7.out.size _).grown hg8 (by have := XB7.out.size; simp; omega) (fun q hq => (HR7b.out.o1.lt q hq).1)); clear ho8 hg8 hl8)
                    | fail)
                  go_roundg (n + 1 - (i + 1))
                  case measure => omega
                  case rel =>
                    refine ⟨i + 1, by omega, by omega, rfl, by go_num, ?_, XB8⟩
                    have hh := HR8.out
                    have e1 : (encs e.pl (kQ e k ++ (e.ws j).take (i - 1)) ++ [z1]).length = (encs e.pl (kQ e k ++ (e.ws j).take (i - 1))).length + 1 := by simp
                    have e2 : (encs e'.pl (kQ e k ++ (e.ws j).take (i - 1)) ++ [z2]).length = (encs e'.pl (kQ e k ++ (e.ws j).take (i - 1))).length + 1 := by simp
                    rw [e1, e2] at hh
                    rw [← HZ1.out, ← HZ2.out, show [enc e.pl x'] = encs e.pl [x'] from rfl, show [enc e'.pl x'] = encs e'.pl [x'] from rfl, encs_app, encs_app, List.append_assoc, ← HTK.out] at hh
                    rw [Nat.add_sub_cancel]
                    exact hh
                · obtain rfl : i = n + 1 := by omega
                  have hQ : kQ e (k + 1) = kQ e k ++ e.ws j := by unfold kQ; rw [hO, que_snoc]
                  have hlq : (kQ e (k + 1)).length = ln + n := by rw [hQ, List.length_append, HNQ.out, HN.out]
                  have q1 : ¬ ((n + 1 : Nat) : Int) ≤ (n : Int) := by omega
                  have HRe := HRr.out
                  rw [Nat.add_sub_cancel, List.take_of_length_le (by have := HN.out; omega), ← hQ] at HRe
                  have e1 : (plcs e.pl (kO e k) ++ [(p : Int)]).length = (plcs e.pl (kO e k)).length + 1 := by simp
                  have e2 : (plcs e'.pl (kO e k) ++ [(q : Int)]).length = (plcs e'.pl (kO e k)).length + 1 := by simp
                  rw [e1, e2] at HRe
                  have HRE := Lib.hid HRe
                  clear e1 e2
                  clear HRe HRr
                  go_wp2_with fail
                  go_roundg (27 + e.s + e.size - (k + 1))
                  case measure => omega
                  case rel =>
                    refine ⟨k + 1, by rw [hlq]; omega, rfl, ?_, by go_num, HRE, HBr⟩
                    rw [hO, tot_append, show tot e.sz [j] = 1 + n from by simp only [tot, E.sz]; have := HN.out; omega]
                    rfl
    · obtain rfl : k = ln := by omega
      have hN' : tot e.sz (kO e k) = N := hN _ (ord_nodup _) fun j => ⟨kO_reach, fun hj => ord_all (ws := e.ws) (roots := e.roots) (k := k) (by show (kQ e k).length ≤ k; omega) hj⟩
      clear hsl0 hsl1
      go_wp2_with fail
      go_ret2
      exact ⟨by rw [← hN']; rfl, XW.out⟩
end Gc
end Go.Proofs.Ytaldcgfhlflcpaa
namespace Go.Proofs.Ytaldcgfhlflcpaa
open Go.RowKit
set_option linter.unusedVariables false
set_option linter.unusedSimpArgs false
set_option maxRecDepth 100000
namespace Gc
set_option maxHeartbeats 4000000 in
theorem living_any (e : E) (h : e.Ok) (R : Nat → Int) (mem : List Int) (B : e.Bef R mem) (N : Nat) (hN : Alive e N) (hss : e.s ≤ 60) (hsz : e.size ≤ 500) (a : Option Addr) (cap : Nat) (w : World) (hs : Sl w (.slice a mem.length cap) (i64s mem)) :
    Calls Try.prog 7 #[.slice a mem.length cap, .agg (regsV R).toArray] w fun en w' => en = .returned (.int .i64 (N : Nat)) ∧ Below w.heap.size w w' := by
  have HAL : Hid (∀ W, Sl W (.slice a mem.length cap) (i64s mem) → Calls Try.prog 10 #[.slice a mem.length cap, .agg (regsV R).toArray, .slice a mem.length cap, .agg (regsV R).toArray, .int .i64 0, .int .i64 (mem.length : Nat)] W fun en w' => en = .returned (.tuple #[.int .i64 (N : Nat), .bool true]) ∧ Below W.heap.size W w') := fun W hW =>
    alike_any e e h h (Like.refl e) R R mem mem B B N hN 0 (mem.length : Nat) (fun j hj => by have := pl_small h hj; rw [B.len]; omega) hss hsz a a cap cap W hW hW
  have HS := Lib.hid hs
  clear hs
  go_enter Try.func7, Try.ntmps7
  go_upto_region 1 with fail
  have XA := Lib.hid ((Below.refl w.heap.size w).alloc (Nat.le_refl _) (.cells (regsV R).toArray 30))
  have HA := Lib.hid (heap_alloc_new w (.cells (regsV R).toArray 30))
  generalize w.alloc (.cells (regsV R).toArray 30) = x at XA HA ⊢
  have RA := Lib.hid (regs_rangeAt HA.out)
  have HQ := Lib.hid (regsV_size R)
  have HSx := Lib.hid (HS.out.below XA.out (Nat.le_refl _))
  go_wp2_with (first
    | (refine wpList_load_r 30 (.tmp 3) rfl rfl w.heap.size 0 rfl (regsV R) _ RA.out Try.underlying30 rfl HQ.out ?_)
    | fail)
  with_reducible refine (HAL.out x HSx.out).mono ?_
  rintro en w1 ⟨rfl, hb⟩
  have XB := Lib.hid (XA.out.trans (hb.mono XA.out.size))
  clear hb
  go_wp2_with fail
  go_ret
  exact ⟨rfl, XB.out⟩
end Gc
end Go.Proofs.Ytaldcgfhlflcpaa
namespace Go.Proofs.Ytaldcgfhlflcpaa
open Go.RowKit
set_option linter.unusedVariables false
set_option linter.unusedSimpArgs false
namespace Gc
structure Wd where
  size : Int
  things : List (Int × List (Int × Int))
  roots : List (Int × Int)
  stack : List (Int × Int)
  wanted : Int
  turned : Bool
namespace Wd
variable (x : Wd)
def K : Nat := x.things.length
def cv (p : Int × Int) : W := conv x.K p.1 p.2
def th (j : Nat) : Int × List (Int × Int) := x.things.getD j (0, [])
def szT (t : Int × List (Int × Int)) : Nat := 1 + t.2.length
def upto (j : Nat) : Nat := ((x.things.take j).map szT).sum
def sz : Nat := x.size.toNat
def s : Nat := x.stack.length
def low : Nat := 35 + x.s
def oth : Nat := x.low + x.sz + 2
def env : E where
  hd := fun j => 8 * (8 * ((x.th j).2.length : Int) + (x.th j).1 % 8) + 7
  ws := fun j => (x.th j).2.map x.cv
  roots := x.roots.map x.cv ++ x.stack.map x.cv
  pl := fun j => (if x.turned = true then x.oth else x.low) + x.upto j
  lo := if x.turned = true then x.oth else x.low
  hi := (if x.turned = true then x.oth else x.low) + x.sz
  oth := if x.turned = true then x.low else x.oth
  s := x.s
  size := x.sz
  len := 42 + x.s + 2 * x.sz
structure May : Prop where
  size : 0 ≤ x.size ∧ x.size ≤ 500
  stack : x.stack.length ≤ 60
  things : x.things.length ≤ 60
  wanted : 0 ≤ x.wanted ∧ x.wanted ≤ 1000
  roots : x.roots.length = 27
  fits : x.upto x.K ≤ x.sz
variable {x}
theorem upto_zero : x.upto 0 = 0 := by simp [upto]
theorem upto_succ {j : Nat} (h : j < x.K) : x.upto (j + 1) = x.upto j + (1 + (x.th j).2.length) := by
  unfold upto th
  unfold K at h
  rw [List.take_add_one, List.map_append, List.sum_append, List.getElem?_eq_getElem h, List.getD_eq_getElem?_getD, List.getElem?_eq_getElem h]
  simp [szT]
theorem upto_mono {i j : Nat} (h : i ≤ j) (hj : j ≤ x.K) : x.upto i ≤ x.upto j := by
  induction j with
  | zero => have : i = 0 := by omega
            subst this; exact Nat.le_refl _
  | succ j ih =>
    by_cases e : i = j + 1
    · subst e; exact Nat.le_refl _
    · have := ih (by omega) (by omega)
      rw [upto_succ (by omega)]
      omega
theorem reach_lt {j : Nat} (h : x.env.R j) : j < x.K := by
  have key : ∀ l : List (Int × Int), W.ref j ∈ l.map x.cv → j < x.K := by
    intro l hl
    obtain ⟨p, -, hp⟩ := List.mem_map.1 hl
    exact conv_ref hp
  cases h with
  | root h =>
    rcases List.mem_append.1 h with h | h
    · exact key _ h
    · exact key _ h
  | word _ h => exact key _ h
theorem tot_upto (j : Nat) (hj : j ≤ x.K) : tot x.env.sz (List.range j) = x.upto j := by
  induction j with
  | zero => rw [upto_zero]; rfl
  | succ j ih =>
    rw [List.range_succ, tot_append, ih (by omega), upto_succ (by omega)]
    simp only [tot, E.sz, env, List.length_map]
    omega
theorem env_ok (h : x.May) : x.env.Ok := by
  have hs := h.size
  have hst := h.stack
  have hsz : (x.sz : Int) = x.size := by unfold sz; omega
  have hraw : ∀ (l : List (Int × Int)) (z : Int), W.raw z ∈ l.map x.cv → z % 8 ≠ 1 := by
    intro l z hl
    obtain ⟨p, -, hp⟩ := List.mem_map.1 hl
    exact conv_raw hp
  have hin : ∀ j, x.env.R j → x.upto j + x.env.sz j ≤ x.sz := by
    intro j hj
    have hl := reach_lt hj
    have h1 := upto_succ hl
    have h2 := upto_mono (x := x) (i := j + 1) (j := x.K) (by omega) (Nat.le_refl _)
    have h3 := h.fits
    have : x.env.sz j = 1 + (x.th j).2.length := by simp [E.sz, env]
    omega
  refine ⟨?_, ?_, ?_, ?_, ?_, ?_, ?_, ?_, ?_, ?_, ?_, ?_⟩
  · show (x.roots.map x.cv ++ x.stack.map x.cv).length = 27 + x.stack.length
    rw [List.length_append, List.length_map, List.length_map, h.roots]
  · intro z hz
    rcases List.mem_append.1 hz with hz | hz
    · exact hraw _ z hz
    · exact hraw _ z hz
  · intro j z _ hz
    exact hraw _ z hz
  · intro j hj
    show (8 * (8 * ((x.th j).2.length : Int) + (x.th j).1 % 8) + 7) % 8 = 7 ∧ (8 * (8 * ((x.th j).2.length : Int) + (x.th j).1 % 8) + 7) / 64 = (((x.th j).2.map x.cv).length : Nat)
    rw [List.length_map]
    omega
  · intro j hj
    have := hin j hj
    show (if x.turned = true then x.oth else x.low) ≤ (if x.turned = true then x.oth else x.low) + x.upto j ∧ (if x.turned = true then x.oth else x.low) + x.upto j + x.env.sz j ≤ (if x.turned = true then x.oth else x.low) + x.sz
    omega
  · intro i j hi hj hne
    have li := reach_lt hi
    have lj := reach_lt hj
    show (if x.turned = true then x.oth else x.low) + x.upto i + x.env.sz i ≤ (if x.turned = true then x.oth else x.low) + x.upto j ∨ (if x.turned = true then x.oth else x.low) + x.upto j + x.env.sz j ≤ (if x.turned = true then x.oth else x.low) + x.upto i
    have e1 : x.env.sz i = 1 + (x.th i).2.length := by simp [E.sz, env]
    have e2 : x.env.sz j = 1 + (x.th j).2.length := by simp [E.sz, env]
    have u1 := upto_succ li
    have u2 := upto_succ lj
    by_cases hlt : i < j
    · have := upto_mono (x := x) (i := i + 1) (j := j) (by omega) (by omega)
      omega
    · have := upto_mono (x := x) (i := j + 1) (j := i) (by omega) (by omega)
      omega
  · show 32 + x.s ≤ (if x.turned = true then x.oth else x.low)
    unfold oth low
    split <;> omega
  · show 32 + x.s ≤ (if x.turned = true then x.low else x.oth)
    unfold oth low
    split <;> omega
  · show (if x.turned = true then x.oth else x.low) + x.sz ≤ (if x.turned = true then x.low else x.oth) ∨ (if x.turned = true then x.low else x.oth) + x.sz ≤ (if x.turned = true then x.oth else x.low)
    unfold oth
    split
    · exact .inr (by omega)
    · exact .inl (by omega)
  · show (if x.turned = true then x.oth else x.low) + x.sz ≤ 42 + x.s + 2 * x.sz ∧ (if x.turned = true then x.low else x.oth) + x.sz ≤ 42 + x.s + 2 * x.sz
    unfold oth low
    split <;> omega
  · intro l hn hl
    have := tot_sub x.env.sz l (List.range x.K) hn (fun j hj => List.mem_range.2 (reach_lt (hl j hj)))
    rw [tot_upto x.K (Nat.le_refl _)] at this
    exact Nat.le_trans this h.fits
  · show 42 + x.s + 2 * x.sz ≤ 1048576
    unfold s
    omega
theorem env_hi : x.env.hi = x.env.lo + x.env.size := rfl
end Wd
end Gc
end Go.Proofs.Ytaldcgfhlflcpaa
namespace Go.Proofs.Ytaldcgfhlflcpaa
open Go.RowKit
set_option linter.unusedVariables false
set_option linter.unusedSimpArgs false
set_option maxRecDepth 100000
namespace Gc
def WoAt (w : World) (v : Value) (l : List (Int × Int)) : Prop :=
  ∃ a cap, v = .slice a l.length cap ∧ l.length ≤ 1000000000000000 ∧ (l = [] ∨ ∃ b off, a = some ⟨b, off, none⟩ ∧ b < w.heap.size ∧ ∀ j p, l[j]? = some p → w.cell? ⟨b, off + j * 2, none⟩ = some (.int .i64 p.1) ∧ w.cell? ⟨b, off + j * 2 + 1, none⟩ = some (.int .i64 p.2))
def ThAt (w : World) (v : Value) (l : List (Int × List (Int × Int))) : Prop :=
  ∃ a cap, v = .slice a l.length cap ∧ (l = [] ∨ ∃ b off, a = some ⟨b, off, none⟩ ∧ b < w.heap.size ∧ ∀ j t, l[j]? = some t → w.cell? ⟨b, off + j * 2, none⟩ = some (.int .i64 t.1) ∧ ∃ v', w.cell? ⟨b, off + j * 2 + 1, none⟩ = some v' ∧ WoAt w v' t.2)
theorem WoAt.below {w w' : World} {v : Value} {l : List (Int × Int)} (h : WoAt w v l) (hb : Below w.heap.size w w') : WoAt w' v l := by
  obtain ⟨a, cap, e, hn, h | ⟨b, off, e2, hlt, hc⟩⟩ := h
  · exact ⟨a, cap, e, hn, .inl h⟩
  · refine ⟨a, cap, e, hn, .inr ⟨b, off, e2, by have := hb.size; omega, fun j p hp => ?_⟩⟩
    obtain ⟨c1, c2⟩ := hc j p hp
    exact ⟨(hb.cell (p := ⟨b, off + j * 2, none⟩) hlt).trans c1, (hb.cell (p := ⟨b, off + j * 2 + 1, none⟩) hlt).trans c2⟩
theorem ThAt.below {w w' : World} {v : Value} {l : List (Int × List (Int × Int))} (h : ThAt w v l) (hb : Below w.heap.size w w') : ThAt w' v l := by
  obtain ⟨a, cap, e, h | ⟨b, off, e2, hlt, hc⟩⟩ := h
  · exact ⟨a, cap, e, .inl h⟩
  · refine ⟨a, cap, e, .inr ⟨b, off, e2, by have := hb.size; omega, fun j p hp => ?_⟩⟩
    obtain ⟨c1, v', c2, c3⟩ := hc j p hp
    exact ⟨(hb.cell (p := ⟨b, off + j * 2, none⟩) hlt).trans c1, v', (hb.cell (p := ⟨b, off + j * 2 + 1, none⟩) hlt).trans c2, c3.below hb⟩
def wordsC (l : List (Int × Int)) : List Value := l.flatMap fun p => [.int .i64 p.1, .int .i64 p.2]
def Wd.cells (x : Wd) (tv sv : Value) : List Value := .int .i64 x.size :: tv :: (wordsC x.roots ++ [sv, .int .i64 x.wanted, .bool x.turned])
theorem wordsC_get : ∀ (l : List (Int × Int)) (j : Nat) (p : Int × Int), l[j]? = some p → (wordsC l)[2 * j]? = some (.int .i64 p.1) ∧ (wordsC l)[2 * j + 1]? = some (.int .i64 p.2)
  | [], j, p, h => by simp at h
  | q :: l, 0, p, h => by
    have : q = p := by simpa using h
    subst this
    exact ⟨rfl, rfl⟩
  | q :: l, j + 1, p, h => by
    obtain ⟨h1, h2⟩ := wordsC_get l j p (by simpa using h)
    refine ⟨?_, ?_⟩
    · rw [show 2 * (j + 1) = 2 * j + 1 + 1 by omega]; exact h1
    · rw [show 2 * (j + 1) + 1 = 2 * j + 1 + 1 + 1 by omega]; exact h2
theorem wordsC_length (l : List (Int × Int)) : (wordsC l).length = 2 * l.length := by
  induction l with
  | nil => rfl
  | cons q l ih => show (wordsC l).length + 1 + 1 = _; rw [ih, List.length_cons]; omega
theorem cells_at (x : Wd) (tv sv : Value) (h : x.roots.length = 27) : (x.cells tv sv)[0]? = some (.int .i64 x.size) ∧ (x.cells tv sv)[1]? = some tv ∧ (x.cells tv sv)[56]? = some sv ∧ (x.cells tv sv)[57]? = some (.int .i64 x.wanted) ∧ (x.cells tv sv)[58]? = some (.bool x.turned) ∧
    ∀ j p, x.roots[j]? = some p → (x.cells tv sv)[2 + 2 * j]? = some (.int .i64 p.1) ∧ (x.cells tv sv)[2 + 2 * j + 1]? = some (.int .i64 p.2) := by
  have hl : (wordsC x.roots).length = 54 := by rw [wordsC_length, h]
  have hr : ∀ i, (x.cells tv sv)[i + 1 + 1]? = (wordsC x.roots ++ [sv, .int .i64 x.wanted, .bool x.turned])[i]? := fun i => rfl
  refine ⟨rfl, rfl, ?_, ?_, ?_, fun j p hp => ?_⟩
  · rw [hr 54, List.getElem?_append_right (by omega), hl]; rfl
  · rw [hr 55, List.getElem?_append_right (by omega), hl]; rfl
  · rw [hr 56, List.getElem?_append_right (by omega), hl]; rfl
  · have hj := (List.getElem?_eq_some_iff.1 hp).1
    obtain ⟨h1, h2⟩ := wordsC_get x.roots j p hp
    refine ⟨?_, ?_⟩
    · rw [show 2 + 2 * j = 2 * j + 1 + 1 by omega, hr, List.getElem?_append_left (by omega)]; exact h1
    · rw [show 2 + 2 * j + 1 = 2 * j + 1 + 1 + 1 by omega, hr, List.getElem?_append_left (by omega)]; exact h2
def zeroR : List Value := regsV fun _ => 0
def MadePost (x : Wd) (w : World) (en : Ending) (w' : World) : Prop :=
  Below w.heap.size w w' ∧ ((x.May ∧ ∃ a cap R mem, en = .returned (.tuple #[.slice a mem.length cap, .agg (regsV R).toArray, .bool true]) ∧ Sl w' (.slice a mem.length cap) (i64s mem) ∧ x.env.Bef R mem ∧ R 26 = x.wanted ∧ (∀ i, Rs.InR (R i)) ∧ ∀ v ∈ mem, Rs.InR v) ∨
    (¬ x.May ∧ en = .returned (.tuple #[.slice none 0 0, .agg zeroR.toArray, .bool false])))
theorem wpList_store_r {P : Program} {ops : Array Oper} {rest : List Oper} {op : Oper} {a : Act} {w : World} {Q : Exit → Act → World → Prop} (hgd : op.guard = none) (ty : TypeId) (x y : Operand) (ho : op.op = .store ty x y) (b : Nat) (t : TypeId) (cs0 : Array Value) (cs : List Value)
    (hx : a.eval x = .pointer (some ⟨b, 0, none⟩)) (hy : a.eval y = .agg cs.toArray) (hb : w.heap[b]? = some (.cells cs0 t (0, 0))) (hl : cs0.size = cs.length) (hi : (P.info? ty).map (·.size) = some cs.length) (h1 : ∀ v ∈ cs, v.oneCell' = true)
    (h : ∀ w', w' = w.setRow b cs.toArray → wpList P ops Q rest (a.put op.dst undef) w') : wpList P ops Q (op :: rest) a w := by
  refine wpList_plain hgd fun _ hK => ?_
  have hr : (storeVar ty ⟨b, 0, none⟩ (.agg cs.toArray)).run P w = .ok () (w.setRow b cs.toArray) := by
    have := store_all (P := P) w b t cs0 cs hb hl h1
    cases hq : P.info? ty with
    | none => simp [hq] at hi
    | some i =>
      have hs : cs.length = i.size := by simp [hq] at hi; omega
      simp [storeVar, sizeOf, typeInfo, hq, Value.cells, hs, this]
  unfold Oper.wp execOp
  simp only [ho, hx, hy, Instr.storeAt, Instr.sureAddr, Sem.run_bind, Sem.run_pure, Result.andThen_ok, hr]
  exact hK _ _ (h _ rfl)
theorem below_setCells {N b : Nat} {w0 : World} : ∀ (vs : List Value) (o : Nat) (w : World), Below N w0 w → N ≤ b → Below N w0 (w.setCells b o vs)
  | [], o, w, h, hb => h
  | v :: vs, o, w, h, hb => below_setCells vs (o + 1) (w.setCell ⟨b, o, none⟩ v) (h.setCell hb v) hb
theorem res3 {fn : Func} {p q r : Tmp} {ty : TypeId} (h : fn.results = #[.tmp p, .cell q ty, .tmp r]) (tmps : Array Value) (w : World) (g : Nat) (cs : List Value) (d : TypeDesc) (hp : tmps.getD q undef = .pointer (some ⟨g, 0, none⟩)) (hc : w.rangeAt g 0 cs)
    (hu : Try.prog.underlying ty = some d) (hd : d.isRow = true) (hi : (Try.prog.info? ty).map (·.size) = some cs.length) : (results fn tmps).run Try.prog w = .ok (.tuple #[tmps.getD p undef, .agg cs.toArray, tmps.getD r undef]) w := by
  have hp' : tmps[q]?.getD undef = .pointer (some ⟨g, 0, none⟩) := by simpa using hp
  simp [results, h, hp', asAddr, run_loadVar_mid w g 0 ty cs d hc hu hd hi]
theorem zeroR_one : ∀ v ∈ zeroR, v.oneCell' = true := by intro u hu; obtain ⟨i, -, rfl⟩ := List.mem_map.1 hu; rfl
end Gc
end Go.Proofs.Ytaldcgfhlflcpaa
namespace Go.Proofs.Ytaldcgfhlflcpaa
open Go.RowKit
set_option linter.unusedVariables false
set_option linter.unusedSimpArgs false
set_option maxRecDepth 100000
namespace Gc
open Rs
theorem getD_set (m : List Int) {p : Nat} (q : Nat) (v : Int) (hp : p < m.length) : (m.set p v).getD q 0 = if q = p then v else m.getD q 0 := by
  rw [List.getD_eq_getElem?_getD, List.getElem?_set]
  by_cases e : p = q
  · subst e; rw [if_pos rfl, if_pos rfl, if_pos hp]; rfl
  · rw [if_neg e, if_neg (fun h => e h.symm), List.getD_eq_getElem?_getD]
theorem getD_set_ne (m : List Int) {p q : Nat} (v : Int) (h : q ≠ p) : (m.set p v).getD q 0 = m.getD q 0 := by
  rw [List.getD_eq_getElem?_getD, List.getElem?_set, if_neg (fun e => h e.symm), List.getD_eq_getElem?_getD]
structure Fit (m : List Int) (n : Nat) : Prop where
  len : m.length = n
  inr : ∀ v ∈ m, InR v
theorem Fit.set {m : List Int} {n : Nat} (h : Fit m n) (p : Nat) {v : Int} (hv : InR v) : Fit (m.set p v) n := by
  refine ⟨by rw [List.length_set]; exact h.len, fun u hu => ?_⟩
  rcases List.mem_or_eq_of_mem_set hu with hu | rfl
  · exact h.inr u hu
  · exact hv
theorem inr_small {v : Int} (h : -1000000000000 ≤ v) (h2 : v ≤ 1000000000000) : InR v := by unfold InR; omega
def Laid (x : Wd) (i : Nat) (m : List Int) : Prop := ∀ j, j < i → m.getD (x.env.pl j) 0 = x.env.hd j ∧ ∀ t w, (x.env.ws j)[t]? = some w → m.getD (x.env.pl j + 1 + t) 0 = enc x.env.pl w
def LaidTo (x : Wd) (i k : Nat) (m : List Int) : Prop := Laid x i m ∧ m.getD (x.env.pl i) 0 = x.env.hd i ∧ ∀ t w, t < k → (x.env.ws i)[t]? = some w → m.getD (x.env.pl i + 1 + t) 0 = enc x.env.pl w
theorem pl_eq (x : Wd) (j : Nat) : x.env.pl j = x.env.lo + x.upto j := rfl
theorem ws_len (x : Wd) (j : Nat) : (x.env.ws j).length = (x.th j).2.length := List.length_map _
theorem Laid.set {x : Wd} {i p : Nat} {m : List Int} (h : Laid x i m) (hi : i ≤ x.K) (hp : p < x.env.lo ∨ x.env.lo + x.upto i ≤ p) (v : Int) : Laid x i (m.set p v) := by
  intro j hj
  have e := pl_eq x j
  have u1 := Wd.upto_succ (x := x) (j := j) (by omega)
  have u2 := Wd.upto_mono (x := x) (i := j + 1) (j := i) (by omega) hi
  refine ⟨?_, fun t w ht => ?_⟩
  · rw [getD_set_ne _ _ (by omega)]; exact (h j hj).1
  · have hl := (List.getElem?_eq_some_iff.1 ht).1
    rw [ws_len] at hl
    rw [getD_set_ne _ _ (by omega)]
    exact (h j hj).2 t w ht
theorem Laid.head {x : Wd} {i : Nat} {m : List Int} (h : Laid x i m) (hi : i < x.K) (hl : x.env.pl i < m.length) : LaidTo x i 0 (m.set (x.env.pl i) (x.env.hd i)) := by
  refine ⟨h.set (by omega) (.inr ?_) _, ?_, fun t w ht => by omega⟩
  · rw [pl_eq]; omega
  · rw [getD_set _ _ _ hl, if_pos rfl]
theorem LaidTo.word {x : Wd} {i k : Nat} {m : List Int} (h : LaidTo x i k m) (hi : i < x.K) {w : W} (hw : (x.env.ws i)[k]? = some w) (hl : x.env.pl i + 1 + k < m.length) : LaidTo x i (k + 1) (m.set (x.env.pl i + 1 + k) (enc x.env.pl w)) := by
  obtain ⟨h1, h2, h3⟩ := h
  refine ⟨h1.set (by omega) (.inr ?_) _, ?_, fun t w' ht hw' => ?_⟩
  · rw [pl_eq]; omega
  · rw [getD_set_ne _ _ (by omega)]; exact h2
  · by_cases e : t = k
    · subst e
      rw [getD_set _ _ _ hl, if_pos rfl]
      rw [hw] at hw'
      cases hw'
      rfl
    · rw [getD_set_ne _ _ (by omega)]
      exact h3 t w' (by omega) hw'
theorem LaidTo.done {x : Wd} {i : Nat} {m : List Int} (h : LaidTo x i (x.th i).2.length m) : Laid x (i + 1) m := by
  obtain ⟨h1, h2, h3⟩ := h
  intro j hj
  by_cases e : j = i
  · subst e
    refine ⟨h2, fun t w ht => h3 t w ?_ ht⟩
    have hl := (List.getElem?_eq_some_iff.1 ht).1
    rwa [ws_len] at hl
  · exact h1 j (by omega)
theorem root_at {x : Wd} (h : x.roots.length = 27) {c : Nat} {p : Int × Int} (hp : x.roots[c]? = some p) : x.env.roots[c]? = some (x.cv p) := by
  have hl := (List.getElem?_eq_some_iff.1 hp).1
  show (x.roots.map x.cv ++ x.stack.map x.cv)[c]? = _
  rw [List.getElem?_append_left (by rw [List.length_map]; exact hl), List.getElem?_map, hp]
  rfl
theorem stk_at {x : Wd} (h : x.roots.length = 27) {c : Nat} {p : Int × Int} (hp : x.stack[c]? = some p) : x.env.roots[27 + c]? = some (x.cv p) := by
  show (x.roots.map x.cv ++ x.stack.map x.cv)[27 + c]? = _
  rw [List.getElem?_append_right (by rw [List.length_map, h]; omega), List.length_map, h, show 27 + c - 27 = c by omega, List.getElem?_map, hp]
  rfl
theorem word_at {x : Wd} {i k : Nat} {p : Int × Int} (hp : (x.th i).2[k]? = some p) : (x.env.ws i)[k]? = some (x.cv p) := by
  show ((x.th i).2.map x.cv)[k]? = _
  rw [List.getElem?_map, hp]
  rfl
theorem enc_inr {x : Wd} (hP : ∀ j, j < x.K → x.env.pl j ≤ 1048576) (p : Int × Int) : InR (enc x.env.pl (x.cv p)) := by
  unfold InR
  cases hc : x.cv p with
  | ref j =>
    have := hP j (conv_ref hc)
    simp only [enc]
    omega
  | raw z =>
    have hz : x.cv p = conv x.K p.1 p.2 := rfl
    rw [hz] at hc
    unfold conv at hc
    split at hc
    · cases hc
    · injection hc with hc
      have h1 := numT_range p.1 p.2
      have h2 := tagT_cases p.1
      simp only [enc]
      omega
structure RegTo (x : Wd) (i : Nat) (R : Nat → Int) : Prop where
  at_ : ∀ c w, c < i → x.env.roots[c]? = some w → R (c + 1) = enc x.env.pl w
  zero : R 0 = 0
  inr : ∀ c, InR (R c)
theorem RegTo.next {x : Wd} {i : Nat} {R : Nat → Int} (h : RegTo x i R) {w : W} (hw : x.env.roots[i]? = some w) (hr : InR (enc x.env.pl w)) : RegTo x (i + 1) (upd R (i + 1) (enc x.env.pl w)) := by
  refine ⟨fun c w' hc hw' => ?_, ?_, fun c => ?_⟩
  · by_cases e : c = i
    · subst e
      rw [hw] at hw'
      cases hw'
      exact upd_same _ _ _
    · rw [upd_ne _ _ _ (by omega)]
      exact h.at_ c w' (by omega) hw'
  · rw [upd_ne _ _ _ (by omega)]; exact h.zero
  · unfold upd
    split
    · exact hr
    · exact h.inr c
theorem RegTo.other {x : Wd} {R : Nat → Int} (h : RegTo x 25 R) {a : Nat} (ha : 25 < a) {v : Int} (hr : InR v) : RegTo x 25 (upd R a v) := by
  refine ⟨fun c w' hc hw' => ?_, ?_, fun c => ?_⟩
  · rw [upd_ne _ _ _ (by omega)]; exact h.at_ c w' hc hw'
  · rw [upd_ne _ _ _ (by omega)]; exact h.zero
  · unfold upd
    split
    · exact hr
    · exact h.inr c
structure StkTo (x : Wd) (k : Nat) (m : List Int) : Prop where
  laid : Laid x x.K m
  r25 : ∀ w, x.env.roots[25]? = some w → m.getD 25 0 = enc x.env.pl w
  r26 : ∀ w, x.env.roots[26]? = some w → m.getD 26 0 = enc x.env.pl w
  stk : ∀ c w, c < k → x.env.roots[27 + c]? = some w → m.getD (32 + c) 0 = enc x.env.pl w
theorem low_le (x : Wd) : 35 + x.s ≤ x.env.lo := by
  show 35 + x.s ≤ if x.turned = true then x.oth else x.low
  unfold Wd.oth Wd.low
  split <;> omega
theorem StkTo.next {x : Wd} {k : Nat} {m : List Int} (h : StkTo x k m) (hk : k < x.s) (hl : 32 + k < m.length) {w : W} (hw : x.env.roots[27 + k]? = some w) : StkTo x (k + 1) (m.set (32 + k) (enc x.env.pl w)) := by
  have hlo := low_le x
  refine ⟨h.laid.set (Nat.le_refl _) (.inl (by omega)) _, fun w hw => ?_, fun w hw => ?_, fun c w' hc hw' => ?_⟩
  · rw [getD_set_ne _ _ (by omega)]; exact h.r25 w hw
  · rw [getD_set_ne _ _ (by omega)]; exact h.r26 w hw
  · by_cases e : c = k
    · subst e
      rw [hw] at hw'
      cases hw'
      rw [getD_set _ _ _ hl, if_pos rfl]
    · rw [getD_set_ne _ _ (by omega)]
      exact h.stk c w' (by omega) hw'
theorem StkTo.first {x : Wd} {m : List Int} (h : Laid x x.K m) (hl : 26 < m.length) {u v : W} (hu : x.env.roots[25]? = some u) (hv : x.env.roots[26]? = some v) : StkTo x 0 ((m.set 25 (enc x.env.pl u)).set 26 (enc x.env.pl v)) := by
  have hlo := low_le x
  refine ⟨(h.set (Nat.le_refl _) (.inl (by omega)) _).set (Nat.le_refl _) (.inl (by omega)) _, fun w hw => ?_, fun w hw => ?_, fun c w' hc hw' => by omega⟩
  · rw [getD_set_ne _ _ (by omega), getD_set _ _ _ (by omega), if_pos rfl]
    rw [hu] at hw; cases hw; rfl
  · rw [getD_set _ _ _ (by rw [List.length_set]; exact hl), if_pos rfl]
    rw [hv] at hw; cases hw; rfl
theorem bef_of {x : Wd} (h27 : x.roots.length = 27) {m : List Int} {R : Nat → Int} (hl : m.length = x.env.len) (hS : StkTo x x.s m) (hR : RegTo x 25 R) (h30 : R 30 = ((32 + x.s : Nat) : Int)) :
    x.env.Bef R ((((m.set 28 (x.env.lo : Int)).set 29 ((x.env.lo + x.sz : Nat) : Int)).set 30 (x.env.oth : Int)).set 31 ((x.env.oth + x.sz : Nat) : Int)) := by
  have hlo := low_le x
  have hlen : x.env.len = 42 + x.s + 2 * x.sz := rfl
  have far : ∀ q, q ≠ 28 → q ≠ 29 → q ≠ 30 → q ≠ 31 → ((((m.set 28 (x.env.lo : Int)).set 29 ((x.env.lo + x.sz : Nat) : Int)).set 30 (x.env.oth : Int)).set 31 ((x.env.oth + x.sz : Nat) : Int)).getD q 0 = m.getD q 0 := fun q h1 h2 h3 h4 => by
    rw [getD_set_ne _ _ h4, getD_set_ne _ _ h3, getD_set_ne _ _ h2, getD_set_ne _ _ h1]
  refine ⟨by simp only [List.length_set]; exact hl, ?_, ?_, fun c w hc hw => hR.at_ c w hc hw, ?_, ?_, ?_, ?_, ?_, ?_, hR.zero, h30⟩
  · intro j hj
    have e := pl_eq x j
    rw [far _ (by omega) (by omega) (by omega) (by omega)]
    exact (hS.laid j (Wd.reach_lt hj)).1
  · intro j hj t w ht
    have e := pl_eq x j
    rw [far _ (by omega) (by omega) (by omega) (by omega)]
    exact (hS.laid j (Wd.reach_lt hj)).2 t w ht
  · intro c w h1 h2 hw
    rw [far _ (by omega) (by omega) (by omega) (by omega)]
    by_cases e : c = 25
    · subst e; exact hS.r25 w hw
    · obtain rfl : c = 26 := by omega
      exact hS.r26 w hw
  · intro c w h1 hw
    have hcl := (List.getElem?_eq_some_iff.1 hw).1
    have hrl : x.env.roots.length = 27 + x.s := by
      show (x.roots.map x.cv ++ x.stack.map x.cv).length = 27 + x.stack.length
      rw [List.length_append, List.length_map, List.length_map, h27]
    rw [far _ (by omega) (by omega) (by omega) (by omega)]
    obtain ⟨d, rfl⟩ : ∃ d, c = 27 + d := ⟨c - 27, by omega⟩
    rw [show 27 + d + 5 = 32 + d by omega]
    exact hS.stk d w (by omega) hw
  · rw [getD_set_ne _ _ (by decide), getD_set_ne _ _ (by decide), getD_set_ne _ _ (by decide), getD_set _ _ _ (by omega), if_pos rfl]
  · rw [getD_set_ne _ _ (by decide), getD_set_ne _ _ (by decide), getD_set _ _ _ (by rw [List.length_set]; omega), if_pos rfl]; rfl
  · rw [getD_set_ne _ _ (by decide), getD_set _ _ _ (by simp only [List.length_set]; omega), if_pos rfl]
  · rw [getD_set _ _ _ (by simp only [List.length_set]; omega), if_pos rfl]; rfl
structure Mst (x : Wd) (w : World) (C : List Value) (bm : Nat) (ap : Option Addr) (cp : Nat) (R : Nat → Int) (m : List Int) (wx : World) : Prop where
  old : Below w.heap.size w wx
  box : wx.heap[w.heap.size]? = some (.cells C.toArray 28 (0, 0))
  res : wx.heap[w.heap.size + 1]? = some (.cells zeroR.toArray 30 (0, 0))
  reg : wx.heap[w.heap.size + 2]? = some (.cells (regsV R).toArray 30 (0, 0))
  mem : wx.heap[bm]? = some (.cells (i64s m).toArray 3 (0, 0))
  bml : w.heap.size + 2 < bm
  pls : Sl wx (.slice ap x.K cp) (i64s (ints x.env.pl x.K))
  plb : ∀ b off s, ap = some ⟨b, off, s⟩ → bm < b
namespace Mst
variable {x : Wd} {w wx w' : World} {C : List Value} {bm : Nat} {ap : Option Addr} {cp : Nat} {R : Nat → Int} {m : List Int}
theorem below (h : Mst x w C bm ap cp R m wx) (hb : Below wx.heap.size wx w') : Mst x w C bm ap cp R m w' := by
  have h0 := h.old.size
  have l1 := (Array.getElem?_eq_some_iff.1 h.mem).1
  have l2 := h.bml
  exact ⟨h.old.trans (hb.mono h0), (hb.block _ (by omega)).trans h.box, (hb.block _ (by omega)).trans h.res, (hb.block _ (by omega)).trans h.reg, (hb.block _ l1).trans h.mem, h.bml, h.pls.below hb (Nat.le_refl _), h.plb⟩
theorem sizes (h : Mst x w C bm ap cp R m wx) : bm < wx.heap.size := (Array.getElem?_eq_some_iff.1 h.mem).1
theorem pls_other (h : Mst x w C bm ap cp R m wx) (b o : Nat) (v : Value) (hb : b ≤ bm) : Sl (wx.setCell ⟨b, o, none⟩ v) (.slice ap x.K cp) (i64s (ints x.env.pl x.K)) := by
  obtain ⟨a, cap, hv, h1 | ⟨ad, h1, h2⟩⟩ := h.pls
  · exact ⟨a, cap, hv, .inl h1⟩
  · refine ⟨a, cap, hv, .inr ⟨ad, h1, fun j u hu => ?_⟩⟩
    have := h2 j u hu
    rw [World.cell?_of_block (w := wx) (heap_setCell_other _ _ _ _ ?_)]
    · exact this
    · obtain ⟨ab, ao, asp⟩ := ad
      have hlt := h.plb ab ao asp (by rw [← h1]; exact (Value.slice.inj hv).1)
      have : (Addr.add ⟨ab, ao, asp⟩ j).block = ab := by unfold Addr.add; split <;> rfl
      rw [this]
      show ab ≠ b
      omega
theorem setMem (h : Mst x w C bm ap cp R m wx) {p : Nat} (hp : p < m.length) (v : Int) : Mst x w C bm ap cp R (m.set p v) (wx.setCell ⟨bm, p, none⟩ (.int .i64 v)) := by
  have l2 := h.bml
  have ho : ∀ k, k ≠ bm → (wx.setCell ⟨bm, p, none⟩ (.int .i64 v)).heap[k]? = wx.heap[k]? := fun k hk => heap_setCell_other _ _ _ _ hk
  exact ⟨h.old.setCell (p := ⟨bm, p, none⟩) (by show w.heap.size ≤ bm; omega) _, (ho _ (by omega)).trans h.box, (ho _ (by omega)).trans h.res, (ho _ (by omega)).trans h.reg, (Sg.st_row h.mem hp v).2.2.2, h.bml, h.pls_other bm p _ (Nat.le_refl _), h.plb⟩
theorem regs_set (R : Nat → Int) {c : Nat} (hc : c < 32) (v : Int) : (regsV R).toArray.setIfInBounds c (.int .i64 v) = (regsV (upd R c v)).toArray := by
  rw [List.setIfInBounds_toArray]
  congr 1
  refine List.ext_getElem? fun i => ?_
  unfold regsV upd
  rw [List.getElem?_set, List.getElem?_map, List.getElem?_map]
  simp only [List.length_map, List.length_range, List.getElem?_range]
  by_cases e : c = i
  · subst e; simp [hc]
  · rw [if_neg e]
    by_cases h : i < 32
    · simp [h]
      exact fun e2 => absurd e2.symm e
    · simp [h]
theorem setReg (h : Mst x w C bm ap cp R m wx) {c : Nat} (hc : c < 32) (v : Int) : Mst x w C bm ap cp (upd R c v) m (wx.setCell ⟨w.heap.size + 2, c, none⟩ (.int .i64 v)) := by
  have l2 := h.bml
  have ho : ∀ k, k ≠ w.heap.size + 2 → (wx.setCell ⟨w.heap.size + 2, c, none⟩ (.int .i64 v)).heap[k]? = wx.heap[k]? := fun k hk => heap_setCell_other _ _ _ _ hk
  refine ⟨h.old.setCell (p := ⟨w.heap.size + 2, c, none⟩) (by show w.heap.size ≤ w.heap.size + 2; omega) _, (ho _ (by omega)).trans h.box, (ho _ (by omega)).trans h.res, ?_, (ho _ (by omega)).trans h.mem, h.bml, h.pls_other _ c _ (by omega), h.plb⟩
  rw [heap_setCell_same wx (w.heap.size + 2) c _ _ _ h.reg, regs_set R hc]
theorem cellC (h : Mst x w C bm ap cp R m wx) {k : Nat} {v : Value} (hk : C[k]? = some v) : wx.cell? ⟨w.heap.size, k, none⟩ = some v := by
  rw [cell_of_row _ _ _ _ _ _ h.box]
  simpa using hk
theorem memCell (h : Mst x w C bm ap cp R m wx) {p : Nat} (hp : p < m.length) : wx.cell? ⟨bm, p, none⟩ = some (.int .i64 (m.getD p 0)) ∧ wx.frozen? ⟨bm, p, none⟩ = false := by
  refine ⟨?_, frozen_of_row _ _ _ _ _ h.mem⟩
  rw [cell_of_row _ _ _ _ _ _ h.mem]
  simp [i64s, hp, List.getD_eq_getElem?_getD]
theorem regCell (h : Mst x w C bm ap cp R m wx) {c : Nat} (hc : c < 32) : wx.cell? ⟨w.heap.size + 2, c, none⟩ = some (.int .i64 (R c)) ∧ wx.frozen? ⟨w.heap.size + 2, c, none⟩ = false := by
  refine ⟨?_, frozen_of_row _ _ _ _ _ h.reg⟩
  rw [cell_of_row _ _ _ _ _ _ h.reg]
  simpa using regsV_get R hc
theorem place (h : Mst x w C bm ap cp R m wx) {j : Nat} (hj : j < x.K) : ∃ b off, ap = some ⟨b, off, none⟩ ∧ bm < b ∧ b < wx.heap.size ∧ wx.cell? ⟨b, off + j, none⟩ = some (.int .i64 (x.env.pl j : Int)) := by
  obtain ⟨b, off, e, hb, hc⟩ := int_at h.pls (ints_length _ _) (by omega)
  have := hc j hj
  rw [ints_get _ hj] at this
  exact ⟨b, off, e, h.plb b off none e, hb, this⟩
theorem placeAt {b off : Nat} (h : Mst x w C bm (some ⟨b, off, none⟩) cp R m wx) {j : Nat} (hj : j < x.K) : wx.cell? ⟨b, off + j, none⟩ = some (.int .i64 (x.env.pl j : Int)) := by
  obtain ⟨b', off', e, -, -, hc⟩ := h.place hj
  cases e
  exact hc
theorem rd {b off bt : Nat} {u0 u1 : Value} {t : TypeId} (h : Mst x w C bm (some ⟨b, off, none⟩) cp R m wx) (hT : wx.heap[bt]? = some (.cells #[u0, u1] t (0, 0))) {i pl : Nat} (hi : i < x.K) (hpl : x.env.pl i = pl) :
    wx.cell? ⟨b, off + i, none⟩ = some (.int .i64 (pl : Nat)) ∧ wx.cell? ⟨bt, 0, none⟩ = some u0 ∧ wx.cell? ⟨bt, 1, none⟩ = some u1 := by
  refine ⟨by rw [← hpl]; exact h.placeAt hi, ?_, ?_⟩
  · rw [cell_of_row _ _ _ _ _ _ hT]; rfl
  · rw [cell_of_row _ _ _ _ _ _ hT]; rfl
theorem rd2 {b off bt bw o1 o2 : Nat} {u0 u1 v1 v2 : Value} {t : TypeId} (h : Mst x w C bm (some ⟨b, off, none⟩) cp R m wx) (hT : wx.heap[bt]? = some (.cells #[u0, u1] t (0, 0))) {i pl : Nat} (hi : i < x.K) (hpl : x.env.pl i = pl) (hb : bw < w.heap.size) (h1 : w.cell? ⟨bw, o1, none⟩ = some v1) (h2 : w.cell? ⟨bw, o2, none⟩ = some v2) :
    wx.cell? ⟨b, off + i, none⟩ = some (.int .i64 (pl : Nat)) ∧ wx.cell? ⟨bt, 1, none⟩ = some u1 ∧ wx.cell? ⟨bw, o1, none⟩ = some v1 ∧ wx.cell? ⟨bw, o2, none⟩ = some v2 :=
  ⟨(h.rd hT hi hpl).1, (h.rd hT hi hpl).2.2, (h.old.cell (p := ⟨bw, o1, none⟩) hb).trans h1, (h.old.cell (p := ⟨bw, o2, none⟩) hb).trans h2⟩
end Mst
end Gc
end Go.Proofs.Ytaldcgfhlflcpaa
