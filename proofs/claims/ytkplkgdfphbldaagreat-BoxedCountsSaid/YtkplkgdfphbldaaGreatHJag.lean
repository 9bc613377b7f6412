/- Names: the bytes. -/
import Derived.Lib.Hide
import Derived.Lib.Bytealg
import Derived.Deep.LoopGhost
import Derived.Test.YtkplkgdfphbldaaGreatHJaa
namespace Go.Proofs.YtkplkgdfphbldaaGreat
open Go.RowKit
open Go.Lib (hid)
set_option linter.unusedVariables false
set_option linter.unusedSimpArgs false
set_option linter.unnecessarySimpa false
set_option maxRecDepth 100000
theorem isDigit_any (c : Int) (w : World) : Calls Tryz.prog 120 #[.int .u8 c] w fun e w' => e = .returned (.bool (Nm.digitB c)) ∧ w = w' := by
 by_cases h : 48 ≤ c
 ·go_enter Tryz.func120, Tryz.ntmps120
  go_wp2
  go_ret
  exact ⟨by simp [Nm.digitB, h], rfl⟩
 ·go_enter Tryz.func120, Tryz.ntmps120
  go_wp2
  go_ret
  exact ⟨by simp [Nm.digitB, h]; omega, rfl⟩
theorem rdigit_any (c : Int) (w : World) : Calls Tryz.prog 123 #[.int .u8 c] w fun e w' => e = .returned (.bool (Nm.digitB c)) ∧ w = w' := by
 by_cases h : 48 ≤ c
 ·go_enter Tryz.func123, Tryz.ntmps123
  go_wp2
  go_ret
  exact ⟨by simp [Nm.digitB, h], rfl⟩
 ·go_enter Tryz.func123, Tryz.ntmps123
  go_wp2
  go_ret
  exact ⟨by simp [Nm.digitB, h]; omega, rfl⟩
set_option maxRecDepth 100000 in
theorem liteIndex_any (s : ByteArray) (c : Int) (w : World) : Calls Tryz.prog 126 #[.string s, .int .u8 c] w fun e w' => e = .returned (.int .i64 (Lib.indexByte s.data.toList c.toNat.toUInt8)) ∧ w = w' := by
 go_enter Tryz.func126, Tryz.ntmps126
 go_wp2_with fail
 rw [run_callFunc_extern Tryz.func131 (by kernel_rfl) (by kernel_rfl) (by kernel_rfl) (e := Extern.BytealgIndexByte.indexByte) (by kernel_rfl), Lib.run_indexByteString]
 simp only [Result.andThen]
 rw [Oper.upon_value]
 go_wp2
 go_ret
 exact ⟨rfl, rfl⟩
theorem indexByte_any (s : ByteArray) (c : Int) (w : World) : Calls Tryz.prog 121 #[.string s, .int .u8 c] w fun e w' => e = .returned (.int .i64 (Lib.indexByte s.data.toList c.toNat.toUInt8)) ∧ w = w' := by
 go_enter Tryz.func121, Tryz.ntmps121
 go_wp2_with (go_at_call 126; (with_reducible refine (liteIndex_any _ _ _).mono ?_); rintro e w' ⟨rfl, hw⟩; obtain rfl := hw)
 go_ret
 exact ⟨rfl, rfl⟩
def signS : ByteArray := ⟨#[33, 36, 37, 38, 42, 47, 58, 60, 61, 62, 63, 94, 95, 126, 43, 45, 46, 64]⟩
theorem sign_index : ∀ c : Fin 256, decide (0 ≤ Lib.indexByte signS.data.toList ((c : Nat) : Int).toNat.toUInt8) = Nm.signL.contains ((c : Nat) : Int) := by decide +kernel
set_option maxHeartbeats 2000000 in
theorem isName_any (c : Int) (h0 : 0 ≤ c) (h1 : c < 256) (w : World) : Calls Tryz.prog 101 #[.int .u8 c] w fun e w' => e = .returned (.bool (Nm.byteB c)) ∧ w = w' := by
 have hs := sign_index ⟨c.toNat, by omega⟩
 have hc : (((⟨c.toNat, by omega⟩ : Fin 256) : Nat) : Int) = c := by show ((c.toNat : Nat) : Int) = c; omega
 rw [hc] at hs
 obtain ⟨z, hz⟩ : ∃ z, Hid (Lib.indexByte signS.data.toList c.toNat.toUInt8 = z) := ⟨_, rfl⟩
 rw [hz.out] at hs
 obtain ⟨sg, hsg⟩ : ∃ sg, Hid (Nm.signL.contains c = sg) := ⟨_, rfl⟩
 rw [hsg.out] at hs
 have hd : Hid (Nm.byteB c = (Nm.digitB c || (decide (97 ≤ c) && decide (c ≤ 122)) || (decide (65 ≤ c) && decide (c ≤ 90)) || sg)) := by unfold Hid Nm.byteB; rw [hsg.out]
 have HS := hid hs
 clear hs hc
 have cI : Hid (∀ w, Calls Tryz.prog 121 #[.string ⟨#[33, 36, 37, 38, 42, 47, 58, 60, 61, 62, 63, 94, 95, 126, 43, 45, 46, 64]⟩, .int .u8 c] w fun e w' => e = .returned (.int .i64 z) ∧ w = w') := fun w => by rw [← hz.out]; exact indexByte_any signS c w
 by_cases d1 : Nm.digitB c = true
 ·have HD1 := hid d1
  clear d1
  go_enter Tryz.func101, Tryz.ntmps101
  go_wp2_with fail
  with_reducible refine (isDigit_any c w).mono ?_
  rintro e w' ⟨rfl, hw⟩
  obtain rfl := hw
  rw [HD1.out]
  go_wp2_with fail
  go_ret
  exact ⟨by rw [hd.out, HD1.out]; rfl, rfl⟩
 ·have d1' : Nm.digitB c = false := by simpa using d1
  have HD1 := hid d1'
  clear d1 d1'
  have hzz : Hid (decide (0 ≤ z) = sg) := HS.out
  rcases (by omega : (97 ≤ c ∧ c ≤ 122) ∨ (97 ≤ c ∧ 122 < c) ∨ (65 ≤ c ∧ c ≤ 90) ∨ (65 ≤ c ∧ 90 < c ∧ c < 97) ∨ c < 65) with ⟨g1, g2⟩ | ⟨g1, g2⟩ | ⟨g1, g2⟩ | ⟨g1, g2, g3⟩ | g1
  ·have b1 : decide (97 ≤ c) = true := by simp; omega
   have b2 : decide (c ≤ 122) = true := by simp; omega
   have HR : Hid (Nm.byteB c = true) := by unfold Hid; rw [hd.out, HD1.out]; simp; omega
   go_enter Tryz.func101, Tryz.ntmps101
   go_wp2_with fail
   with_reducible refine (isDigit_any c w).mono ?_
   rintro e w' ⟨rfl, hw⟩
   obtain rfl := hw
   rw [HD1.out]
   go_wp2_with fail
   go_ret
   exact ⟨by rw [HR.out]; rfl, rfl⟩
  ·have b1 : decide (97 ≤ c) = true := by simp; omega
   have b2 : decide (c ≤ 122) = false := by simp; omega
   have b3 : decide (65 ≤ c) = true := by simp; omega
   have b4 : decide (c ≤ 90) = false := by simp; omega
   have HR : Hid (Nm.byteB c = sg) := by
    have hA : (decide (97 ≤ c) && decide (c ≤ 122)) = false := by simp; omega
    have hB : (decide (65 ≤ c) && decide (c ≤ 90)) = false := by simp; omega
    unfold Hid
    rw [hd.out, HD1.out, hA, hB]
    rfl
   go_enter Tryz.func101, Tryz.ntmps101
   go_wp2_with fail
   with_reducible refine (isDigit_any c w).mono ?_
   rintro e w' ⟨rfl, hw⟩
   obtain rfl := hw
   rw [HD1.out]
   go_wp2_with fail
   with_reducible refine (cI.out _).mono ?_
   rintro e w' ⟨rfl, hw⟩
   obtain rfl := hw
   go_wp2_with fail
   go_ret
   exact ⟨by rw [HR.out, ← hzz.out]; rfl, rfl⟩
  ·have b1 : decide (97 ≤ c) = false := by simp; omega
   have b3 : decide (65 ≤ c) = true := by simp; omega
   have b4 : decide (c ≤ 90) = true := by simp; omega
   have HR : Hid (Nm.byteB c = true) := by unfold Hid; rw [hd.out, HD1.out]; simp; omega
   go_enter Tryz.func101, Tryz.ntmps101
   go_wp2_with fail
   with_reducible refine (isDigit_any c w).mono ?_
   rintro e w' ⟨rfl, hw⟩
   obtain rfl := hw
   rw [HD1.out]
   go_wp2_with fail
   go_ret
   exact ⟨by rw [HR.out]; rfl, rfl⟩
  ·have b1 : decide (97 ≤ c) = false := by simp; omega
   have b3 : decide (65 ≤ c) = true := by simp; omega
   have b4 : decide (c ≤ 90) = false := by simp; omega
   have HR : Hid (Nm.byteB c = sg) := by
    have hA : (decide (97 ≤ c) && decide (c ≤ 122)) = false := by simp; omega
    have hB : (decide (65 ≤ c) && decide (c ≤ 90)) = false := by simp; omega
    unfold Hid
    rw [hd.out, HD1.out, hA, hB]
    rfl
   go_enter Tryz.func101, Tryz.ntmps101
   go_wp2_with fail
   with_reducible refine (isDigit_any c w).mono ?_
   rintro e w' ⟨rfl, hw⟩
   obtain rfl := hw
   rw [HD1.out]
   go_wp2_with fail
   with_reducible refine (cI.out _).mono ?_
   rintro e w' ⟨rfl, hw⟩
   obtain rfl := hw
   go_wp2_with fail
   go_ret
   exact ⟨by rw [HR.out, ← hzz.out]; rfl, rfl⟩
  ·have b1 : decide (97 ≤ c) = false := by simp; omega
   have b3 : decide (65 ≤ c) = false := by simp; omega
   have HR : Hid (Nm.byteB c = sg) := by
    have hA : (decide (97 ≤ c) && decide (c ≤ 122)) = false := by simp; omega
    have hB : (decide (65 ≤ c) && decide (c ≤ 90)) = false := by simp; omega
    unfold Hid
    rw [hd.out, HD1.out, hA, hB]
    rfl
   go_enter Tryz.func101, Tryz.ntmps101
   go_wp2_with fail
   with_reducible refine (isDigit_any c w).mono ?_
   rintro e w' ⟨rfl, hw⟩
   obtain rfl := hw
   rw [HD1.out]
   go_wp2_with fail
   with_reducible refine (cI.out _).mono ?_
   rintro e w' ⟨rfl, hw⟩
   obtain rfl := hw
   go_wp2_with fail
   go_ret
   exact ⟨by rw [HR.out, ← hzz.out]; rfl, rfl⟩
theorem sign_at (k : Nat) (h : k < 18) : Nm.signL[k]? = some (((ByteArray.mk #[33, 36, 37, 38, 42, 47, 58, 60, 61, 62, 63, 94, 95, 126, 43, 45, 46, 64])[k]'h).toNat : Int) := by
 have e : Nm.signL = Nm.bytesI signS := by decide +kernel
 rw [e]
 exact Nm.bytesI_get signS h
theorem sign_yes {k : Nat} {d c : Int} (h : Nm.signL[k]? = some d) (hq : (d == c) = true) : Nm.signL.contains c = true := by
 have e : d = c := by simpa using hq
 rw [List.contains_iff_mem, ← e]
 exact List.mem_of_getElem? h
theorem sign_no {k : Nat} {d c : Int} (h : Nm.signL[k]? = some d) (hq : (d == c) = false) (hn : (Nm.signL.take k).contains c = false) : (Nm.signL.take (k + 1)).contains c = false := by
 have e : d ≠ c := by simpa using hq
 have h' := hn
 rw [List.take_add_one, h]
 rw [Bool.eq_false_iff] at h' ⊢
 intro hc
 rw [List.contains_iff_mem] at hc
 rcases List.mem_append.1 hc with h1 | h1
 ·exact h' (List.contains_iff_mem.2 h1)
 ·simp at h1
  exact e h1.symm
set_option maxHeartbeats 2000000 in
theorem rbyte_any (c : Int) (h0 : 0 ≤ c) (h1 : c < 256) (w : World) : Calls Tryz.prog 107 #[.int .u8 c] w fun e w' => e = .returned (.bool (Nm.byteB c)) ∧ w = w' := by
 have hd : Hid (Nm.byteB c = (Nm.digitB c || (decide (97 ≤ c) && decide (c ≤ 122)) || (decide (65 ≤ c) && decide (c ≤ 90)) || Nm.signL.contains c)) := rfl
 by_cases d1 : Nm.digitB c = true
 ·have HD1 := hid d1
  clear d1
  go_enter Tryz.func107, Tryz.ntmps107
  go_wp2_with fail
  with_reducible refine (rdigit_any c w).mono ?_
  rintro e w' ⟨rfl, hw⟩
  obtain rfl := hw
  rw [HD1.out]
  go_wp2_with fail
  go_ret
  exact ⟨by rw [hd.out, HD1.out]; rfl, rfl⟩
 ·have d1' : Nm.digitB c = false := by simpa using d1
  have HD1 := hid d1'
  clear d1 d1'
  rcases (by omega : (97 ≤ c ∧ c ≤ 122) ∨ (97 ≤ c ∧ 122 < c) ∨ (65 ≤ c ∧ c ≤ 90) ∨ (65 ≤ c ∧ 90 < c ∧ c < 97) ∨ c < 65) with ⟨g1, g2⟩ | ⟨g1, g2⟩ | ⟨g1, g2⟩ | ⟨g1, g2, g3⟩ | g1
  ·have b1 : decide (97 ≤ c) = true := by simp; omega
   have b2 : decide (c ≤ 122) = true := by simp; omega
   have HR : Hid (Nm.byteB c = true) := by unfold Hid; rw [hd.out, HD1.out]; simp; omega
   go_enter Tryz.func107, Tryz.ntmps107
   go_wp2_with fail
   with_reducible refine (rdigit_any c w).mono ?_
   rintro e w' ⟨rfl, hw⟩
   obtain rfl := hw
   rw [HD1.out]
   go_wp2_with fail
   go_ret
   exact ⟨by rw [HR.out]; rfl, rfl⟩
  ·have b1 : decide (97 ≤ c) = true := by simp; omega
   have b2 : decide (c ≤ 122) = false := by simp; omega
   have b3 : decide (65 ≤ c) = true := by simp; omega
   have b4 : decide (c ≤ 90) = false := by simp; omega
   have HR : Hid (Nm.byteB c = Nm.signL.contains c) := by
    have hA : (decide (97 ≤ c) && decide (c ≤ 122)) = false := by simp; omega
    have hB : (decide (65 ≤ c) && decide (c ≤ 90)) = false := by simp; omega
    unfold Hid
    rw [hd.out, HD1.out, hA, hB]
    rfl
   go_enter Tryz.func107, Tryz.ntmps107
   go_wp2_with fail
   with_reducible refine (rdigit_any c w).mono ?_
   rintro e w' ⟨rfl, hw⟩
   obtain rfl := hw
   rw [HD1.out]
   go_wp2_with fail
   go_loopg [4] 18 (fun gk i wx => ∃ k : Nat, k ≤ 18 ∧ gk = 18 - k ∧ i = .int .i64 k ∧ (Nm.signL.take k).contains c = false ∧ w = wx)
   case atStart => exact ⟨0, by omega, rfl, rfl, rfl, rfl⟩
   case round =>
    obtain ⟨k, hk, rfl, rfl, hno, rfl⟩ := hrel
    have HNO := hid hno
    clear hno
    by_cases hlt : k < 18
    ·have hsz : k < 18 := hlt
     have hg1 : (0 : Int) ≤ k := by omega
     have hg2 : (k : Int) < 18 := by omega
     have hgw : IntKind.i64.wrap ((k : Int) + 1) = k + 1 := by rw [IntKind.wrap_i64]; omega
     have HSG := hid (sign_at k hlt)
     go_wp2_with fail
     ·rename_i hq
      have hc : Nm.signL.contains c = true := sign_yes HSG.out hq
      go_ret
      exact ⟨by rw [HR.out, hc]; rfl, rfl⟩
     ·rename_i hq
      have HNX := hid (sign_no HSG.out hq HNO.out)
      go_roundg (18 - (k + 1))
      case measure => omega
      case rel => exact ⟨k + 1, by omega, rfl, by go_num, HNX.out, rfl⟩
    ·obtain rfl : k = 18 := by omega
     go_wp2_with fail
     go_ret
     exact ⟨by rw [HR.out, ← HNO.out]; rfl, rfl⟩
  ·have b1 : decide (97 ≤ c) = false := by simp; omega
   have b3 : decide (65 ≤ c) = true := by simp; omega
   have b4 : decide (c ≤ 90) = true := by simp; omega
   have HR : Hid (Nm.byteB c = true) := by unfold Hid; rw [hd.out, HD1.out]; simp; omega
   go_enter Tryz.func107, Tryz.ntmps107
   go_wp2_with fail
   with_reducible refine (rdigit_any c w).mono ?_
   rintro e w' ⟨rfl, hw⟩
   obtain rfl := hw
   rw [HD1.out]
   go_wp2_with fail
   go_ret
   exact ⟨by rw [HR.out]; rfl, rfl⟩
  ·have b1 : decide (97 ≤ c) = false := by simp; omega
   have b3 : decide (65 ≤ c) = true := by simp; omega
   have b4 : decide (c ≤ 90) = false := by simp; omega
   have HR : Hid (Nm.byteB c = Nm.signL.contains c) := by
    have hA : (decide (97 ≤ c) && decide (c ≤ 122)) = false := by simp; omega
    have hB : (decide (65 ≤ c) && decide (c ≤ 90)) = false := by simp; omega
    unfold Hid
    rw [hd.out, HD1.out, hA, hB]
    rfl
   go_enter Tryz.func107, Tryz.ntmps107
   go_wp2_with fail
   with_reducible refine (rdigit_any c w).mono ?_
   rintro e w' ⟨rfl, hw⟩
   obtain rfl := hw
   rw [HD1.out]
   go_wp2_with fail
   go_loopg [4] 18 (fun gk i wx => ∃ k : Nat, k ≤ 18 ∧ gk = 18 - k ∧ i = .int .i64 k ∧ (Nm.signL.take k).contains c = false ∧ w = wx)
   case atStart => exact ⟨0, by omega, rfl, rfl, rfl, rfl⟩
   case round =>
    obtain ⟨k, hk, rfl, rfl, hno, rfl⟩ := hrel
    have HNO := hid hno
    clear hno
    by_cases hlt : k < 18
    ·have hsz : k < 18 := hlt
     have hg1 : (0 : Int) ≤ k := by omega
     have hg2 : (k : Int) < 18 := by omega
     have hgw : IntKind.i64.wrap ((k : Int) + 1) = k + 1 := by rw [IntKind.wrap_i64]; omega
     have HSG := hid (sign_at k hlt)
     go_wp2_with fail
     ·rename_i hq
      have hc : Nm.signL.contains c = true := sign_yes HSG.out hq
      go_ret
      exact ⟨by rw [HR.out, hc]; rfl, rfl⟩
     ·rename_i hq
      have HNX := hid (sign_no HSG.out hq HNO.out)
      go_roundg (18 - (k + 1))
      case measure => omega
      case rel => exact ⟨k + 1, by omega, rfl, by go_num, HNX.out, rfl⟩
    ·obtain rfl : k = 18 := by omega
     go_wp2_with fail
     go_ret
     exact ⟨by rw [HR.out, ← HNO.out]; rfl, rfl⟩
  ·have b1 : decide (97 ≤ c) = false := by simp; omega
   have b3 : decide (65 ≤ c) = false := by simp; omega
   have HR : Hid (Nm.byteB c = Nm.signL.contains c) := by
    have hA : (decide (97 ≤ c) && decide (c ≤ 122)) = false := by simp; omega
    have hB : (decide (65 ≤ c) && decide (c ≤ 90)) = false := by simp; omega
    unfold Hid
    rw [hd.out, HD1.out, hA, hB]
    rfl
   go_enter Tryz.func107, Tryz.ntmps107
   go_wp2_with fail
   with_reducible refine (rdigit_any c w).mono ?_
   rintro e w' ⟨rfl, hw⟩
   obtain rfl := hw
   rw [HD1.out]
   go_wp2_with fail
   go_loopg [4] 18 (fun gk i wx => ∃ k : Nat, k ≤ 18 ∧ gk = 18 - k ∧ i = .int .i64 k ∧ (Nm.signL.take k).contains c = false ∧ w = wx)
   case atStart => exact ⟨0, by omega, rfl, rfl, rfl, rfl⟩
   case round =>
    obtain ⟨k, hk, rfl, rfl, hno, rfl⟩ := hrel
    have HNO := hid hno
    clear hno
    by_cases hlt : k < 18
    ·have hsz : k < 18 := hlt
     have hg1 : (0 : Int) ≤ k := by omega
     have hg2 : (k : Int) < 18 := by omega
     have hgw : IntKind.i64.wrap ((k : Int) + 1) = k + 1 := by rw [IntKind.wrap_i64]; omega
     have HSG := hid (sign_at k hlt)
     go_wp2_with fail
     ·rename_i hq
      have hc : Nm.signL.contains c = true := sign_yes HSG.out hq
      go_ret
      exact ⟨by rw [HR.out, hc]; rfl, rfl⟩
     ·rename_i hq
      have HNX := hid (sign_no HSG.out hq HNO.out)
      go_roundg (18 - (k + 1))
      case measure => omega
      case rel => exact ⟨k + 1, by omega, rfl, by go_num, HNX.out, rfl⟩
    ·obtain rfl : k = 18 := by omega
     go_wp2_with fail
     go_ret
     exact ⟨by rw [HR.out, ← HNO.out]; rfl, rfl⟩
end Go.Proofs.YtkplkgdfphbldaaGreat
