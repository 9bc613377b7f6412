/- Names: the numbers among texts, the names. -/
import Derived.WalkSpells
import Derived.Test.YtkplkgdfphbldaaGreatHJag
namespace Go.Proofs.YtkplkgdfphbldaaGreat
open Go.RowKit
open Go.Lib (hid)
set_option linter.unusedVariables false
set_option linter.unusedSimpArgs false
set_option linter.unnecessarySimpa false
set_option maxRecDepth 100000
theorem all_step {p : Int → Bool} {l : List Int} {k : Nat} {d : Int} (h : l[k]? = some d) (hp : p d = true) (ha : (l.take k).all p = true) : (l.take (k + 1)).all p = true := by
 rw [List.take_add_one, h, List.all_append, ha]
 simp [hp]
theorem all_no {p : Int → Bool} {l : List Int} {k : Nat} {d : Int} (h : l[k]? = some d) (hp : p d = false) : l.all p = false := by
 rw [List.all_eq_false]
 exact ⟨d, List.mem_of_getElem? h, by rw [hp]; decide⟩
theorem bytesI_tail (s : ByteArray) : Nm.bytesI (s.extract 1 s.size) = (Nm.bytesI s).tail := by
 have h : (s.extract 1 s.size).data.toList = s.data.toList.drop 1 := by
  rw [Lib.extract_data]
  simp
  rw [List.take_of_length_le (by simp)]
 unfold Nm.bytesI
 rw [h]
 simp
set_option maxHeartbeats 4000000 in
theorem dnumber_any (s : ByteArray) (hs : s.size ≤ maxLen) (w : World) : Calls Tryz.prog 102 #[.string s] w fun e w' => e = .returned (.bool (Nm.numL (Nm.bytesI s))) ∧ w = w' := by
 unfold maxLen at hs
 by_cases hz : s.size = 0
 ·have h1 : s.toList = [] := by rw [Lib.toList_data]; exact List.eq_nil_of_length_eq_zero (by simpa using hz)
  have hb : Nm.bytesI s = [] := List.eq_nil_of_length_eq_zero (by rw [Nm.bytesI_length]; exact hz)
  have HBZ := hid hb
  have hsz : (s.size : Int) = 0 := by omega
  have HZ : Hid (Nm.numL (Nm.bytesI s) = false) := by unfold Hid; rw [hb]; rfl
  clear hb
  go_enter Tryz.func102, Tryz.ntmps102
  go_wp2_with fail
  refine wp_loop_rounds 1 ?_
  rw [rounds_succ]
  go_wp2_with fail
  go_ret
  exact ⟨by rw [HZ.out]; first | rfl | simp [h1], rfl⟩
 ·have hpos : 0 < s.size := by omega
  have h1' : s.toList ≠ [] := by rw [Lib.toList_data]; intro e; have h := congrArg List.length e; rw [Array.length_toList] at h; exact hz h
  have h1 : ¬ s.toList = [] := h1'
  have h2 : s.toList.isEmpty = false := by simpa using h1'
  have hcons : Nm.bytesI s = ((s[0].toNat : Nat) : Int) :: (Nm.bytesI s).tail := by
   have h := Nm.bytesI_get s hpos
   cases hb : Nm.bytesI s with
   | nil => rw [hb] at h; simp at h
   | cons a l => rw [hb] at h; simp at h; rw [h]; rfl
  have HC := hid hcons
  clear hcons h1'
  have hts : (s.extract 1 s.size).size = s.size - 1 := by simp
  have hbt := bytesI_tail s
  rcases (by omega : ((s[0].toNat : Nat) : Int) = 43 ∨ (((s[0].toNat : Nat) : Int) ≠ 43 ∧ ((s[0].toNat : Nat) : Int) = 45) ∨ (((s[0].toNat : Nat) : Int) ≠ 43 ∧ ((s[0].toNat : Nat) : Int) ≠ 45)) with q | ⟨q, q2⟩ | ⟨q, q2⟩
  ·have b1 : (((s[0].toNat : Nat) : Int) == 43) = true := by simpa using q
   have hres : Nm.numL (Nm.bytesI s) = ((Nm.bytesI (s.extract 1 s.size)).all Nm.digitB && !(Nm.bytesI (s.extract 1 s.size)).isEmpty) := by unfold Nm.numL; rw [hbt, HC.out]; simp [Nm.unsigned, q]
   clear q
   go_enter Tryz.func102, Tryz.ntmps102
   go_wp2_with fail
   generalize s.extract 1 s.size = t at *
   clear hbt
   have hbl := Nm.bytesI_length t
   have HR := hid hres
   have htl := Lib.toList_data t
   have hne : Hid (0 < t.size → (¬ t.toList = []) ∧ t.toList.isEmpty = false) := fun h => by
    have : t.toList ≠ [] := by rw [htl]; intro e; have h3 := congrArg List.length e; rw [Array.length_toList] at h3; exact absurd h3 (Nat.ne_of_gt h)
    exact ⟨this, by simpa using this⟩
   have hni : Hid (t.size = 0 → t.toList = []) := fun h => by rw [htl]; exact List.eq_nil_of_length_eq_zero (by simpa using h)
   clear hres htl
   go_loopg [20] t.size (fun gk i wx => ∃ k : Nat, k ≤ t.size ∧ gk = t.size - k ∧ i = .int .i64 k ∧ ((Nm.bytesI t).take k).all Nm.digitB = true ∧ w = wx)
   case atStart => exact ⟨0, Nat.zero_le _, rfl, rfl, rfl, rfl⟩
   case round =>
    obtain ⟨k, hk, rfl, rfl, hall, rfl⟩ := hrel
    have HALL := hid hall
    clear hall
    by_cases hlt : k < t.size
    ·have HG := hid (Nm.bytesI_get t hlt)
     have hg1 : (0 : Int) ≤ k := by omega
     have hg2 : (k : Int) < t.size := by omega
     have hgw : IntKind.i64.wrap ((k : Int) + 1) = k + 1 := by rw [IntKind.wrap_i64]; omega
     go_wp2_with fail
     with_reducible refine (isDigit_any _ _).mono ?_
     rintro e w' ⟨rfl, hw⟩
     obtain rfl := hw
     cases hd : Nm.digitB ((t[k].toNat : Nat) : Int)
     ·have HF := hid (all_no HG.out hd)
      clear hd
      go_wp2_with fail
      go_ret
      exact ⟨by rw [HR.out, HF.out]; rfl, rfl⟩
     ·have HT := hid (all_step HG.out hd HALL.out)
      clear hd
      go_wp2_with fail
      go_roundg (t.size - (k + 1))
      case measure => omega
      case rel => exact ⟨k + 1, by omega, rfl, by go_num, HT.out, rfl⟩
    ·obtain rfl : k = t.size := by omega
     have hge : (t.size : Int) ≤ t.size := by omega
     have hfull : (Nm.bytesI t).all Nm.digitB = true := by have h := HALL.out; rw [List.take_of_length_le (by omega)] at h; exact h
     have HF := hid hfull
     clear hfull
     by_cases hz : t.size = 0
     ·have h1 := hni.out hz
      have HB : Hid ((Nm.bytesI t).isEmpty = true) := by unfold Hid; rw [List.isEmpty_iff]; exact List.eq_nil_of_length_eq_zero (by omega)
      go_wp2_with fail
      go_ret
      exact ⟨by rw [HR.out, HF.out, HB.out]; first | rfl | simp [h1], rfl⟩
     ·obtain ⟨h1, h2⟩ := hne.out (by omega)
      have HB : Hid ((Nm.bytesI t).isEmpty = false) := by unfold Hid; rw [List.isEmpty_eq_false_iff]; intro e; rw [e] at hbl; simp at hbl; omega
      go_wp2_with fail
      go_ret
      exact ⟨by rw [HR.out, HF.out, HB.out]; first | rfl | simp [h2], rfl⟩
  ·have b1 : (((s[0].toNat : Nat) : Int) == 43) = false := by simpa using q
   have b2 : (((s[0].toNat : Nat) : Int) == 45) = true := by simpa using q2
   have hres : Nm.numL (Nm.bytesI s) = ((Nm.bytesI (s.extract 1 s.size)).all Nm.digitB && !(Nm.bytesI (s.extract 1 s.size)).isEmpty) := by unfold Nm.numL; rw [hbt, HC.out]; simp [Nm.unsigned, q2]
   clear q q2
   go_enter Tryz.func102, Tryz.ntmps102
   go_wp2_with fail
   generalize s.extract 1 s.size = t at *
   clear hbt
   have hbl := Nm.bytesI_length t
   have HR := hid hres
   have htl := Lib.toList_data t
   have hne : Hid (0 < t.size → (¬ t.toList = []) ∧ t.toList.isEmpty = false) := fun h => by
    have : t.toList ≠ [] := by rw [htl]; intro e; have h3 := congrArg List.length e; rw [Array.length_toList] at h3; exact absurd h3 (Nat.ne_of_gt h)
    exact ⟨this, by simpa using this⟩
   have hni : Hid (t.size = 0 → t.toList = []) := fun h => by rw [htl]; exact List.eq_nil_of_length_eq_zero (by simpa using h)
   clear hres htl
   go_loopg [20] t.size (fun gk i wx => ∃ k : Nat, k ≤ t.size ∧ gk = t.size - k ∧ i = .int .i64 k ∧ ((Nm.bytesI t).take k).all Nm.digitB = true ∧ w = wx)
   case atStart => exact ⟨0, Nat.zero_le _, rfl, rfl, rfl, rfl⟩
   case round =>
    obtain ⟨k, hk, rfl, rfl, hall, rfl⟩ := hrel
    have HALL := hid hall
    clear hall
    by_cases hlt : k < t.size
    ·have HG := hid (Nm.bytesI_get t hlt)
     have hg1 : (0 : Int) ≤ k := by omega
     have hg2 : (k : Int) < t.size := by omega
     have hgw : IntKind.i64.wrap ((k : Int) + 1) = k + 1 := by rw [IntKind.wrap_i64]; omega
     go_wp2_with fail
     with_reducible refine (isDigit_any _ _).mono ?_
     rintro e w' ⟨rfl, hw⟩
     obtain rfl := hw
     cases hd : Nm.digitB ((t[k].toNat : Nat) : Int)
     ·have HF := hid (all_no HG.out hd)
      clear hd
      go_wp2_with fail
      go_ret
      exact ⟨by rw [HR.out, HF.out]; rfl, rfl⟩
     ·have HT := hid (all_step HG.out hd HALL.out)
      clear hd
      go_wp2_with fail
      go_roundg (t.size - (k + 1))
      case measure => omega
      case rel => exact ⟨k + 1, by omega, rfl, by go_num, HT.out, rfl⟩
    ·obtain rfl : k = t.size := by omega
     have hge : (t.size : Int) ≤ t.size := by omega
     have hfull : (Nm.bytesI t).all Nm.digitB = true := by have h := HALL.out; rw [List.take_of_length_le (by omega)] at h; exact h
     have HF := hid hfull
     clear hfull
     by_cases hz : t.size = 0
     ·have h1 := hni.out hz
      have HB : Hid ((Nm.bytesI t).isEmpty = true) := by unfold Hid; rw [List.isEmpty_iff]; exact List.eq_nil_of_length_eq_zero (by omega)
      go_wp2_with fail
      go_ret
      exact ⟨by rw [HR.out, HF.out, HB.out]; first | rfl | simp [h1], rfl⟩
     ·obtain ⟨h1, h2⟩ := hne.out (by omega)
      have HB : Hid ((Nm.bytesI t).isEmpty = false) := by unfold Hid; rw [List.isEmpty_eq_false_iff]; intro e; rw [e] at hbl; simp at hbl; omega
      go_wp2_with fail
      go_ret
      exact ⟨by rw [HR.out, HF.out, HB.out]; first | rfl | simp [h2], rfl⟩
  ·have b1 : (((s[0].toNat : Nat) : Int) == 43) = false := by simpa using q
   have b2 : (((s[0].toNat : Nat) : Int) == 45) = false := by simpa using q2
   have hres : Nm.numL (Nm.bytesI s) = ((Nm.bytesI s).all Nm.digitB && !(Nm.bytesI s).isEmpty) := by
    unfold Nm.numL
    rw [HC.out]
    simp [Nm.unsigned, q, q2]
   clear q q2 hts hbt
   go_enter Tryz.func102, Tryz.ntmps102
   go_wp2_with fail
   have hbl := Nm.bytesI_length s
   have HR := hid hres
   have htl := Lib.toList_data s
   have hne : Hid (0 < s.size → (¬ s.toList = []) ∧ s.toList.isEmpty = false) := fun h => by
    have : s.toList ≠ [] := by rw [htl]; intro e; have h3 := congrArg List.length e; rw [Array.length_toList] at h3; exact absurd h3 (Nat.ne_of_gt h)
    exact ⟨this, by simpa using this⟩
   have hni : Hid (s.size = 0 → s.toList = []) := fun h => by rw [htl]; exact List.eq_nil_of_length_eq_zero (by simpa using h)
   clear hres htl
   go_loopg [20] s.size (fun gk i wx => ∃ k : Nat, k ≤ s.size ∧ gk = s.size - k ∧ i = .int .i64 k ∧ ((Nm.bytesI s).take k).all Nm.digitB = true ∧ w = wx)
   case atStart => exact ⟨0, Nat.zero_le _, rfl, rfl, rfl, rfl⟩
   case round =>
    obtain ⟨k, hk, rfl, rfl, hall, rfl⟩ := hrel
    have HALL := hid hall
    clear hall
    by_cases hlt : k < s.size
    ·have HG := hid (Nm.bytesI_get s hlt)
     have hg1 : (0 : Int) ≤ k := by omega
     have hg2 : (k : Int) < s.size := by omega
     have hgw : IntKind.i64.wrap ((k : Int) + 1) = k + 1 := by rw [IntKind.wrap_i64]; omega
     go_wp2_with fail
     with_reducible refine (isDigit_any _ _).mono ?_
     rintro e w' ⟨rfl, hw⟩
     obtain rfl := hw
     cases hd : Nm.digitB ((s[k].toNat : Nat) : Int)
     ·have HF := hid (all_no HG.out hd)
      clear hd
      go_wp2_with fail
      go_ret
      exact ⟨by rw [HR.out, HF.out]; rfl, rfl⟩
     ·have HT := hid (all_step HG.out hd HALL.out)
      clear hd
      go_wp2_with fail
      go_roundg (s.size - (k + 1))
      case measure => omega
      case rel => exact ⟨k + 1, by omega, rfl, by go_num, HT.out, rfl⟩
    ·obtain rfl : k = s.size := by omega
     have hge : (s.size : Int) ≤ s.size := by omega
     have hfull : (Nm.bytesI s).all Nm.digitB = true := by have h := HALL.out; rw [List.take_of_length_le (by omega)] at h; exact h
     have HF := hid hfull
     clear hfull
     by_cases hz2 : s.size = 0
     ·exact absurd hz2 hz
     ·obtain ⟨h1, h2⟩ := hne.out (by omega)
      have HB : Hid ((Nm.bytesI s).isEmpty = false) := by unfold Hid; rw [List.isEmpty_eq_false_iff]; intro e; rw [e] at hbl; simp at hbl; omega
      go_wp2_with fail
      go_ret
      exact ⟨by rw [HR.out, HF.out, HB.out]; first | rfl | simp [h2], rfl⟩
set_option maxHeartbeats 4000000 in
theorem rnumber2_any (s : ByteArray) (hs : s.size ≤ maxLen) (w : World) : Calls Tryz.prog 106 #[.string s] w fun e w' => e = .returned (.bool (Nm.numL (Nm.bytesI s))) ∧ w = w' := by
 unfold maxLen at hs
 by_cases hz : s.size = 0
 ·have hb : Nm.bytesI s = [] := List.eq_nil_of_length_eq_zero (by rw [Nm.bytesI_length]; exact hz)
  have HZ : Hid (Nm.numL (Nm.bytesI s) = false) := by unfold Hid; rw [hb]; rfl
  clear hb
  go_enter Tryz.func106, Tryz.ntmps106
  go_wp2_with fail
  refine wp_loop_rounds 1 ?_
  rw [rounds_succ]
  go_wp2_with fail
  go_ret
  exact ⟨by rw [HZ.out]; first | rfl | simp [hz], rfl⟩
 ·have hpos : 0 < s.size := by omega
  have hposI : (0 : Int) < s.size := by omega
  have hcons : Nm.bytesI s = ((s[0].toNat : Nat) : Int) :: (Nm.bytesI s).tail := by
   have h := Nm.bytesI_get s hpos
   cases hb : Nm.bytesI s with
   | nil => rw [hb] at h; simp at h
   | cons a l => rw [hb] at h; simp at h; rw [h]; rfl
  have HC := hid hcons
  clear hcons
  rcases (by omega : ((s[0].toNat : Nat) : Int) = 43 ∨ (((s[0].toNat : Nat) : Int) ≠ 43 ∧ ((s[0].toNat : Nat) : Int) = 45) ∨ (((s[0].toNat : Nat) : Int) ≠ 43 ∧ ((s[0].toNat : Nat) : Int) ≠ 45)) with q | ⟨q, q2⟩ | ⟨q, q2⟩
  ·have b1 : (((s[0].toNat : Nat) : Int) == 43) = true := by simpa using q
   have hres : Nm.numL (Nm.bytesI s) = (((Nm.bytesI s).drop 1).all Nm.digitB && !((Nm.bytesI s).drop 1).isEmpty) := by unfold Nm.numL; rw [HC.out]; simp [Nm.unsigned, q]
   clear q
   go_enter Tryz.func106, Tryz.ntmps106
   go_wp2_with fail
   have HR := hid hres
   clear hres
   go_loopg [4] (s.size - 1) (fun gk i wx => ∃ k : Nat, 1 ≤ k ∧ k ≤ s.size ∧ gk = s.size - k ∧ i = .int .i64 k ∧ (((Nm.bytesI s).drop 1).take (k - 1)).all Nm.digitB = true ∧ w = wx)
   case atStart => exact ⟨1, Nat.le_refl _, by omega, rfl, rfl, rfl, rfl⟩
   case round =>
    obtain ⟨k, hf, hk, rfl, rfl, hall, rfl⟩ := hrel
    have HALL := hid hall
    clear hall
    by_cases hlt : k < s.size
    ·have HG : Hid (((Nm.bytesI s).drop 1)[k - 1]? = some ((s[k].toNat : Nat) : Int)) := by
      unfold Hid
      rw [List.getElem?_drop]
      have e : 1 + (k - 1) = k := by omega
      rw [e]
      exact Nm.bytesI_get s hlt
     have hg1 : (0 : Int) ≤ k := by omega
     have hg2 : (k : Int) < s.size := by omega
     have hgw : IntKind.i64.wrap ((k : Int) + 1) = k + 1 := by rw [IntKind.wrap_i64]; omega
     go_wp2_with fail
     with_reducible refine (rdigit_any _ _).mono ?_
     rintro e w' ⟨rfl, hw⟩
     obtain rfl := hw
     cases hd : Nm.digitB ((s[k].toNat : Nat) : Int)
     ·have HF := hid (all_no HG.out hd)
      clear hd
      go_wp2_with fail
      go_ret
      exact ⟨by rw [HR.out, HF.out]; rfl, rfl⟩
     ·have HT : Hid ((((Nm.bytesI s).drop 1).take (k + 1 - 1)).all Nm.digitB = true) := by
       have h := all_step HG.out hd HALL.out
       have e : k - 1 + 1 = k + 1 - 1 := by omega
       rw [e] at h
       exact h
      clear hd
      go_wp2_with fail
      go_roundg (s.size - (k + 1))
      case measure => omega
      case rel => exact ⟨k + 1, by omega, by omega, rfl, by go_num, HT.out, rfl⟩
    ·obtain rfl : k = s.size := by omega
     have hge : (s.size : Int) ≤ s.size := by omega
     have hbl := Nm.bytesI_length s
     have hdl : ((Nm.bytesI s).drop 1).length = s.size - 1 := by rw [List.length_drop, hbl]
     have hfull : ((Nm.bytesI s).drop 1).all Nm.digitB = true := by have h := HALL.out; rw [List.take_of_length_le (by simp; omega)] at h; exact h
     have HF := hid hfull
     clear hfull
     by_cases hz2 : s.size = 1
     ·have HB : Hid (((Nm.bytesI s).drop 1).isEmpty = true) := by unfold Hid; rw [List.isEmpty_iff]; exact List.eq_nil_of_length_eq_zero (by simp; omega)
      have hq : ¬ (1 : Int) < s.size := by omega
      go_wp2_with fail
      go_ret
      exact ⟨by rw [HR.out, HF.out, HB.out]; first | rfl | simp [hz2], rfl⟩
     ·have HB : Hid (((Nm.bytesI s).drop 1).isEmpty = false) := by unfold Hid; rw [List.isEmpty_eq_false_iff]; exact fun e => by rw [e] at hdl; exact absurd hdl.symm (by show ¬ s.size - 1 = 0; omega)
      have hq : (1 : Int) < s.size := by omega
      go_wp2_with fail
      go_ret
      exact ⟨by rw [HR.out, HF.out, HB.out]; first | rfl | (simp; omega), rfl⟩
  ·have b1 : (((s[0].toNat : Nat) : Int) == 43) = false := by simpa using q
   have b2 : (((s[0].toNat : Nat) : Int) == 45) = true := by simpa using q2
   have hres : Nm.numL (Nm.bytesI s) = (((Nm.bytesI s).drop 1).all Nm.digitB && !((Nm.bytesI s).drop 1).isEmpty) := by unfold Nm.numL; rw [HC.out]; simp [Nm.unsigned, q2]
   clear q q2
   go_enter Tryz.func106, Tryz.ntmps106
   go_wp2_with fail
   have HR := hid hres
   clear hres
   go_loopg [4] (s.size - 1) (fun gk i wx => ∃ k : Nat, 1 ≤ k ∧ k ≤ s.size ∧ gk = s.size - k ∧ i = .int .i64 k ∧ (((Nm.bytesI s).drop 1).take (k - 1)).all Nm.digitB = true ∧ w = wx)
   case atStart => exact ⟨1, Nat.le_refl _, by omega, rfl, rfl, rfl, rfl⟩
   case round =>
    obtain ⟨k, hf, hk, rfl, rfl, hall, rfl⟩ := hrel
    have HALL := hid hall
    clear hall
    by_cases hlt : k < s.size
    ·have HG : Hid (((Nm.bytesI s).drop 1)[k - 1]? = some ((s[k].toNat : Nat) : Int)) := by
      unfold Hid
      rw [List.getElem?_drop]
      have e : 1 + (k - 1) = k := by omega
      rw [e]
      exact Nm.bytesI_get s hlt
     have hg1 : (0 : Int) ≤ k := by omega
     have hg2 : (k : Int) < s.size := by omega
     have hgw : IntKind.i64.wrap ((k : Int) + 1) = k + 1 := by rw [IntKind.wrap_i64]; omega
     go_wp2_with fail
     with_reducible refine (rdigit_any _ _).mono ?_
     rintro e w' ⟨rfl, hw⟩
     obtain rfl := hw
     cases hd : Nm.digitB ((s[k].toNat : Nat) : Int)
     ·have HF := hid (all_no HG.out hd)
      clear hd
      go_wp2_with fail
      go_ret
      exact ⟨by rw [HR.out, HF.out]; rfl, rfl⟩
     ·have HT : Hid ((((Nm.bytesI s).drop 1).take (k + 1 - 1)).all Nm.digitB = true) := by
       have h := all_step HG.out hd HALL.out
       have e : k - 1 + 1 = k + 1 - 1 := by omega
       rw [e] at h
       exact h
      clear hd
      go_wp2_with fail
      go_roundg (s.size - (k + 1))
      case measure => omega
      case rel => exact ⟨k + 1, by omega, by omega, rfl, by go_num, HT.out, rfl⟩
    ·obtain rfl : k = s.size := by omega
     have hge : (s.size : Int) ≤ s.size := by omega
     have hbl := Nm.bytesI_length s
     have hdl : ((Nm.bytesI s).drop 1).length = s.size - 1 := by rw [List.length_drop, hbl]
     have hfull : ((Nm.bytesI s).drop 1).all Nm.digitB = true := by have h := HALL.out; rw [List.take_of_length_le (by simp; omega)] at h; exact h
     have HF := hid hfull
     clear hfull
     by_cases hz2 : s.size = 1
     ·have HB : Hid (((Nm.bytesI s).drop 1).isEmpty = true) := by unfold Hid; rw [List.isEmpty_iff]; exact List.eq_nil_of_length_eq_zero (by simp; omega)
      have hq : ¬ (1 : Int) < s.size := by omega
      go_wp2_with fail
      go_ret
      exact ⟨by rw [HR.out, HF.out, HB.out]; first | rfl | simp [hz2], rfl⟩
     ·have HB : Hid (((Nm.bytesI s).drop 1).isEmpty = false) := by unfold Hid; rw [List.isEmpty_eq_false_iff]; exact fun e => by rw [e] at hdl; exact absurd hdl.symm (by show ¬ s.size - 1 = 0; omega)
      have hq : (1 : Int) < s.size := by omega
      go_wp2_with fail
      go_ret
      exact ⟨by rw [HR.out, HF.out, HB.out]; first | rfl | (simp; omega), rfl⟩
  ·have b1 : (((s[0].toNat : Nat) : Int) == 43) = false := by simpa using q
   have b2 : (((s[0].toNat : Nat) : Int) == 45) = false := by simpa using q2
   have hres : Nm.numL (Nm.bytesI s) = (((Nm.bytesI s).drop 0).all Nm.digitB && !((Nm.bytesI s).drop 0).isEmpty) := by unfold Nm.numL; rw [HC.out]; simp [Nm.unsigned, q, q2]
   clear q q2
   go_enter Tryz.func106, Tryz.ntmps106
   go_wp2_with fail
   have HR := hid hres
   clear hres
   go_loopg [4] (s.size - 0) (fun gk i wx => ∃ k : Nat, 0 ≤ k ∧ k ≤ s.size ∧ gk = s.size - k ∧ i = .int .i64 k ∧ (((Nm.bytesI s).drop 0).take (k - 0)).all Nm.digitB = true ∧ w = wx)
   case atStart => exact ⟨0, Nat.le_refl _, by omega, rfl, rfl, rfl, rfl⟩
   case round =>
    obtain ⟨k, hf, hk, rfl, rfl, hall, rfl⟩ := hrel
    have HALL := hid hall
    clear hall
    by_cases hlt : k < s.size
    ·have HG : Hid (((Nm.bytesI s).drop 0)[k - 0]? = some ((s[k].toNat : Nat) : Int)) := by
      unfold Hid
      rw [List.getElem?_drop]
      have e : 0 + (k - 0) = k := by omega
      rw [e]
      exact Nm.bytesI_get s hlt
     have hg1 : (0 : Int) ≤ k := by omega
     have hg2 : (k : Int) < s.size := by omega
     have hgw : IntKind.i64.wrap ((k : Int) + 1) = k + 1 := by rw [IntKind.wrap_i64]; omega
     go_wp2_with fail
     with_reducible refine (rdigit_any _ _).mono ?_
     rintro e w' ⟨rfl, hw⟩
     obtain rfl := hw
     cases hd : Nm.digitB ((s[k].toNat : Nat) : Int)
     ·have HF := hid (all_no HG.out hd)
      clear hd
      go_wp2_with fail
      go_ret
      exact ⟨by rw [HR.out, HF.out]; rfl, rfl⟩
     ·have HT : Hid ((((Nm.bytesI s).drop 0).take (k + 1 - 0)).all Nm.digitB = true) := by
       have h := all_step HG.out hd HALL.out
       have e : k - 0 + 1 = k + 1 - 0 := by omega
       rw [e] at h
       exact h
      clear hd
      go_wp2_with fail
      go_roundg (s.size - (k + 1))
      case measure => omega
      case rel => exact ⟨k + 1, by omega, by omega, rfl, by go_num, HT.out, rfl⟩
    ·obtain rfl : k = s.size := by omega
     have hge : (s.size : Int) ≤ s.size := by omega
     have hbl := Nm.bytesI_length s
     have hdl : ((Nm.bytesI s).drop 0).length = s.size - 0 := by rw [List.length_drop, hbl]
     have hfull : ((Nm.bytesI s).drop 0).all Nm.digitB = true := by have h := HALL.out; rw [List.take_of_length_le (by simp; omega)] at h; exact h
     have HF := hid hfull
     clear hfull
     by_cases hz2 : s.size = 0
     ·have HB : Hid (((Nm.bytesI s).drop 0).isEmpty = true) := by unfold Hid; rw [List.isEmpty_iff]; exact List.eq_nil_of_length_eq_zero (by simp; omega)
      have hq : ¬ (0 : Int) < s.size := by omega
      go_wp2_with fail
      go_ret
      exact ⟨by rw [HR.out, HF.out, HB.out]; first | rfl | simp [hz2], rfl⟩
     ·have HB : Hid (((Nm.bytesI s).drop 0).isEmpty = false) := by unfold Hid; rw [List.isEmpty_eq_false_iff]; exact fun e => by rw [e] at hdl; exact absurd hdl.symm (by show ¬ s.size - 0 = 0; omega)
      have hq : (0 : Int) < s.size := by omega
      go_wp2_with fail
      go_ret
      exact ⟨by rw [HR.out, HF.out, HB.out]; first | rfl | (simp; omega), rfl⟩
set_option maxHeartbeats 4000000 in
theorem dname_any (s : ByteArray) (hs : s.size ≤ maxLen) (w : World) : Calls Tryz.prog 80 #[.string s] w fun e w' => e = .returned (.bool (Nm.nameB s)) ∧ w = w' := by
 have HS := hid hs
 unfold maxLen at hs
 have hbl := Nm.bytesI_length s
 go_enter Tryz.func80, Tryz.ntmps80
 go_wp2_with fail
 go_loopg [6] s.size (fun gk i wx => ∃ k : Nat, k ≤ s.size ∧ gk = s.size - k ∧ i = .int .i64 k ∧ ((Nm.bytesI s).take k).all Nm.byteB = true ∧ w = wx)
 case atStart => exact ⟨0, Nat.zero_le _, rfl, rfl, rfl, rfl⟩
 case round =>
  obtain ⟨k, hk, rfl, rfl, hall, rfl⟩ := hrel
  have HALL := hid hall
  clear hall
  by_cases hlt : k < s.size
  ·have HG := hid (Nm.bytesI_get s hlt)
   have hg1 : (0 : Int) ≤ k := by omega
   have hg2 : (k : Int) < s.size := by omega
   have hgw : IntKind.i64.wrap ((k : Int) + 1) = k + 1 := by rw [IntKind.wrap_i64]; omega
   have hby : ((s[k].toNat : Nat) : Int) < 256 := by have := s[k].toNat_lt; omega
   go_wp2_with fail
   with_reducible refine (isName_any _ (by omega) hby _).mono ?_
   rintro e w' ⟨rfl, hw⟩
   obtain rfl := hw
   cases hd : Nm.byteB ((s[k].toNat : Nat) : Int)
   ·have HF := hid (all_no HG.out hd)
    have HR : Hid (Nm.nameB s = false) := by unfold Hid Nm.nameB Nm.nameL; rw [HF.out]; rfl
    clear hd
    go_wp2_with fail
    go_ret
    exact ⟨by rw [HR.out]; rfl, rfl⟩
   ·have HT := hid (all_step HG.out hd HALL.out)
    clear hd
    go_wp2_with fail
    go_roundg (s.size - (k + 1))
    case measure => omega
    case rel => exact ⟨k + 1, by omega, rfl, by go_num, HT.out, rfl⟩
  ·obtain rfl : k = s.size := by omega
   have hge : (s.size : Int) ≤ s.size := by omega
   have hfull : (Nm.bytesI s).all Nm.byteB = true := by have h := HALL.out; rw [List.take_of_length_le (by omega)] at h; exact h
   have HF := hid hfull
   clear hfull
   have HTL : Hid (s.toList = s.data.toList) := Lib.toList_data s
   have HBL := hid hbl
   clear hbl
   go_wp2_with fail
   ·rename_i h
    have HR : Hid (Nm.nameB s = false) := by
     have hb : Nm.bytesI s = [] := by unfold Nm.bytesI; rw [← HTL.out, h]; rfl
     unfold Hid Nm.nameB
     rw [hb]
     rfl
    go_ret
    exact ⟨by rw [HR.out]; rfl, rfl⟩
   ·rename_i h _ h3
    have HR : Hid (Nm.nameB s = false) := by
     have hb : Nm.bytesI s = [46] := by unfold Nm.bytesI; rw [← HTL.out, h3]; rfl
     unfold Hid Nm.nameB
     rw [hb]
     decide
    go_ret
    exact ⟨by rw [HR.out]; rfl, rfl⟩
   ·have h1 : ¬ s.toList = [] := by assumption
    have h2 : (s.size : Int) ≤ 64 := by assumption
    have h3 : ¬ s.toList = [46] := by assumption
    have hb1 : Nm.bytesI s ≠ [] := by
     intro e
     have h4 := congrArg List.length e
     rw [HBL.out] at h4
     have h5 : s.data.toList = [] := List.eq_nil_of_length_eq_zero (by rw [Array.length_toList]; exact h4)
     exact h1 (by rw [HTL.out, h5])
    have hb2 : Nm.bytesI s ≠ [46] := by
     intro e
     have h5 : s = ⟨#[46]⟩ := Nm.bytesI_inj (by rw [e]; rfl)
     exact h3 (by rw [h5, Lib.toList_data])
    have HR : Hid (Nm.nameB s = !Nm.numL (Nm.bytesI s)) := by
     have e1 : (Nm.bytesI s).isEmpty = false := by rw [List.isEmpty_eq_false_iff]; exact hb1
     unfold Hid Nm.nameB Nm.nameL
     rw [HF.out, e1, decide_eq_true (show (Nm.bytesI s).length ≤ 64 by rw [HBL.out]; omega), decide_eq_false hb2]
     rfl
    have b1 : s.toList.isEmpty = false := by simpa using h1
    have b2 : (s.toList == [46]) = false := by simpa using h3
    clear hb1 hb2
    with_reducible refine (dnumber_any s HS.out _).mono ?_
    rintro e w' ⟨rfl, hw⟩
    obtain rfl := hw
    generalize Nm.numL (Nm.bytesI s) = q at *
    cases q
    all_goals
     go_wp2_with fail
     go_ret
     exact ⟨by rw [HR.out]; rfl, rfl⟩
   ·have h2 : (64 : Int) < s.size := by assumption
    have HR : Hid (Nm.nameB s = false) := by
     unfold Hid Nm.nameB Nm.nameL
     rw [decide_eq_false (show ¬ (Nm.bytesI s).length ≤ 64 by rw [HBL.out]; omega)]
     simp
    go_ret
    exact ⟨by rw [HR.out]; rfl, rfl⟩
set_option maxHeartbeats 4000000 in
theorem rname_any (s : ByteArray) (hs : s.size ≤ maxLen) (w : World) : Calls Tryz.prog 87 #[.string s] w fun e w' => e = .returned (.bool (Nm.nameB s)) ∧ w = w' := by
 have HS := hid hs
 unfold maxLen at hs
 have HTL : Hid (s.toList = s.data.toList) := Lib.toList_data s
 have HBL : Hid ((Nm.bytesI s).length = s.size) := Nm.bytesI_length s
 rcases (by omega : s.size < 1 ∨ (1 ≤ s.size ∧ 64 < s.size) ∨ (1 ≤ s.size ∧ s.size ≤ 64)) with h | ⟨h, h2⟩ | ⟨h, h2⟩
 ·have hb : Nm.bytesI s = [] := List.eq_nil_of_length_eq_zero (by rw [HBL.out]; omega)
  have HR : Hid (Nm.nameB s = false) := by unfold Hid Nm.nameB; rw [hb]; rfl
  have hi : (s.size : Int) < 1 := by omega
  clear hb
  go_enter Tryz.func87, Tryz.ntmps87
  go_wp2_with fail
  go_ret
  exact ⟨by rw [HR.out]; rfl, rfl⟩
 ·have HR : Hid (Nm.nameB s = false) := by
   unfold Hid Nm.nameB Nm.nameL
   rw [decide_eq_false (show ¬ (Nm.bytesI s).length ≤ 64 by rw [HBL.out]; omega)]
   simp
  have hi : ¬ (s.size : Int) < 1 := by omega
  have hj : (64 : Int) < s.size := by omega
  go_enter Tryz.func87, Tryz.ntmps87
  go_wp2_with fail
  go_ret
  exact ⟨by rw [HR.out]; rfl, rfl⟩
 ·have hi : ¬ (s.size : Int) < 1 := by omega
  have hj : ¬ (64 : Int) < s.size := by omega
  have HE : Hid ((Nm.bytesI s).isEmpty = false) := by unfold Hid; rw [List.isEmpty_eq_false_iff]; intro e; have h4 := congrArg List.length e; rw [HBL.out] at h4; exact absurd h4 (by show ¬ s.size = 0; omega)
  by_cases hd : s.toList = [46]
  ·have HR : Hid (Nm.nameB s = false) := by
    have hb : Nm.bytesI s = [46] := by unfold Nm.bytesI; rw [← HTL.out, hd]; rfl
    unfold Hid Nm.nameB
    rw [hb]
    decide
   go_enter Tryz.func87, Tryz.ntmps87
   go_wp2_with fail
   go_ret
   exact ⟨by rw [HR.out]; rfl, rfl⟩
  ·have b2 : (s.toList == [46]) = false := by simpa using hd
   have hb2 : Nm.bytesI s ≠ [46] := by
    intro e
    have h5 : s = ⟨#[46]⟩ := Nm.bytesI_inj (by rw [e]; rfl)
    exact hd (by rw [h5, Lib.toList_data])
   have HR : Hid (Nm.nameB s = ((Nm.bytesI s).all Nm.byteB && !Nm.numL (Nm.bytesI s))) := by
    unfold Hid Nm.nameB Nm.nameL
    rw [HE.out, decide_eq_true (show (Nm.bytesI s).length ≤ 64 by rw [HBL.out]; omega), decide_eq_false hb2]
    simp
   clear hb2
   cases hn : Nm.numL (Nm.bytesI s)
   ·have HN := hid hn
    clear hn
    go_enter Tryz.func87, Tryz.ntmps87
    go_wp2_with fail
    with_reducible refine (rnumber2_any s HS.out _).mono ?_
    rintro e w' ⟨rfl, hw⟩
    obtain rfl := hw
    rw [HN.out]
    go_wp2_with fail
    go_loopg [3] s.size (fun gk i wx => ∃ k : Nat, k ≤ s.size ∧ gk = s.size - k ∧ i = .int .i64 k ∧ ((Nm.bytesI s).take k).all Nm.byteB = true ∧ w = wx)
    case atStart => exact ⟨0, Nat.zero_le _, rfl, rfl, rfl, rfl⟩
    case round =>
     obtain ⟨k, hk, rfl, rfl, hall, rfl⟩ := hrel
     have HALL := hid hall
     clear hall
     by_cases hlt : k < s.size
     ·have HG := hid (Nm.bytesI_get s hlt)
      have hg1 : (0 : Int) ≤ k := by omega
      have hg2 : (k : Int) < s.size := by omega
      have hgw : IntKind.i64.wrap ((k : Int) + 1) = k + 1 := by rw [IntKind.wrap_i64]; omega
      have hby : ((s[k].toNat : Nat) : Int) < 256 := by have := s[k].toNat_lt; omega
      go_wp2_with fail
      with_reducible refine (rbyte_any _ (by omega) hby _).mono ?_
      rintro e w' ⟨rfl, hw⟩
      obtain rfl := hw
      cases hd2 : Nm.byteB ((s[k].toNat : Nat) : Int)
      ·have HF := hid (all_no HG.out hd2)
       clear hd2
       go_wp2_with fail
       go_ret
       exact ⟨by rw [HR.out, HF.out]; rfl, rfl⟩
      ·have HT := hid (all_step HG.out hd2 HALL.out)
       clear hd2
       go_wp2_with fail
       go_roundg (s.size - (k + 1))
       case measure => omega
       case rel => exact ⟨k + 1, by omega, rfl, by go_num, HT.out, rfl⟩
     ·obtain rfl : k = s.size := by omega
      have hge : (s.size : Int) ≤ s.size := by omega
      have hfull : (Nm.bytesI s).all Nm.byteB = true := by have h := HALL.out; rw [List.take_of_length_le (by have := HBL.out; omega)] at h; exact h
      have HF := hid hfull
      clear hfull
      go_wp2_with fail
      go_ret
      exact ⟨by rw [HR.out, HF.out, HN.out]; rfl, rfl⟩
   ·have HN := hid hn
    clear hn
    go_enter Tryz.func87, Tryz.ntmps87
    go_wp2_with fail
    with_reducible refine (rnumber2_any s HS.out _).mono ?_
    rintro e w' ⟨rfl, hw⟩
    obtain rfl := hw
    rw [HN.out]
    go_wp2_with fail
    go_ret
    exact ⟨by rw [HR.out, HN.out]; simp, rfl⟩
end Go.Proofs.YtkplkgdfphbldaaGreat
