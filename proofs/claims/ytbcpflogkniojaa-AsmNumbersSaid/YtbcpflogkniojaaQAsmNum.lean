/- The assembler's number. -/
import Derived.Test.YtbcpflogkniojaaQAsmPut
import Derived.Test.YtbcpflogkniojaaQMB
import Derived.Test.YtbcpflogkniojaaQMA
namespace Go.Proofs.Ytbcpflogkniojaa
open Go.RowKit
set_option linter.unusedVariables false
set_option linter.unusedSimpArgs false
theorem i16_wrap (z : Int) : IntKind.i16.wrap z = (z + 32768) % 65536 - 32768 := by
  simp [IntKind.wrap, IntKind.bits, IntKind.signed]
  omega
set_option maxHeartbeats 8000000 in
set_option maxRecDepth 100000 in
theorem number_any {B g lb pb mb : Nat} {L : List (Int × Value)} {al : Option Addr} {cl : Nat} {vc : Value} {l : List As.It} {bs : List Bool} {ps : List Nat} {code : List Int} (w : World) (h : ASt B w g lb pb mb L (.slice al l.length cl) vc l bs ps code) (hlen : code.length ≤ 1000000000) (r n : Int) (k : Nat) (hk1 : 1 ≤ k) (hk4 : k ≤ 4) :
    Calls Try.prog 34 #[.pointer (some ⟨g, 0, none⟩), .int .i64 r, .int .i64 n, .int .i64 k] w fun e w' => e = .returned (.tuple #[]) ∧ ∃ vc', ASt B w' g lb pb mb L (.slice al l.length cl) vc' l bs ps (code ++ As.number r n k) ∧ Below B w w' := by
  have H := Lib.hid h
  clear h
  have m0 := Rs.i64_16 n
  have m1 := Rs.i64_16 (n / 65536)
  have m2 := Rs.i64_16 (n / 4294967296)
  have t0 : As.number r n k = Rs.encW 20 r 0 0 ((n / 2 ^ (16 * (k - 1)) + 32768) % 65536 - 32768) :: As.tailP r n (k - 1) := rfl
  have T0 := Lib.hid t0
  clear t0
  rcases (by omega : k = 1 ∨ k = 2 ∨ k = 3 ∨ k = 4) with rfl | rfl | rfl | rfl
  · have T1 : Hid (As.number r n 1 = Rs.encW 20 r 0 0 ((n + 32768) % 65536 - 32768) :: As.tailP r n 0) := by unfold Hid; have e := T0.out; simpa using e
    obtain ⟨v, hv⟩ : ∃ v, Hid ((n + 32768) % 65536 - 32768 = v) := ⟨_, rfl⟩
    rw [hv.out] at T1
    have hq : wrap64 (IntKind.i16.wrap n) = v := by rw [i16_wrap, ← hv.out]; simp only [wrap64]; omega
    clear T0
    go_enter Try.func34, Try.ntmps34
    go_wp2_with fail
    with_reducible refine (put_any w H.out (by omega) 20 r 0 0 v).mono ?_
    rintro e w1 ⟨rfl, vc1, hA1, hb1⟩
    have A1 := Lib.hid hA1
    have B1 := Lib.hid hb1
    clear hA1 hb1
    go_wp2_with fail
    go_loopg [3] 0 (fun gk i wx => ∃ (j : Nat) (cs : List Int) (vc' : Value), i = .int .i64 j ∧ gk = j ∧ j ≤ 0 ∧ cs ++ As.tailP r n j = As.number r n 1 ∧ cs.length ≤ 4 ∧ ASt B wx g lb pb mb L (.slice al l.length cl) vc' l bs ps (code ++ cs) ∧ Below B w wx)
    case atStart => exact ⟨0, [Rs.encW 20 r 0 0 v], vc1, rfl, rfl, Nat.le_refl _, by rw [T1.out]; rfl, by simp, A1.out, B1.out⟩
    case round =>
      obtain ⟨j, cs, vc', rfl, hgk, hj, hcs, hcl, hA, hb⟩ := hrel
      have HCS := Lib.hid hcs
      have HCL := Lib.hid hcl
      have HA := Lib.hid hA
      have HB := Lib.hid hb
      clear hcs hcl hA hb
      rcases (by omega : j = 0 ∨ j = 1 ∨ j = 2 ∨ j = 3) with rfl | rfl | rfl | rfl
      · go_wp2_with fail
        go_end0
        refine ⟨rfl, vc', ?_, HB.out⟩
        have e := HCS.out
        rw [show As.tailP r n 0 = [] from rfl, List.append_nil] at e
        rw [← e]
        exact HA.out
      · omega
      · omega
      · omega
  · have T1 : Hid (As.number r n 2 = Rs.encW 20 r 0 0 ((n / 65536 + 32768) % 65536 - 32768) :: As.tailP r n 1) := by unfold Hid; have e := T0.out; simpa using e
    obtain ⟨v, hv⟩ : ∃ v, Hid ((n / 65536 + 32768) % 65536 - 32768 = v) := ⟨_, rfl⟩
    rw [hv.out] at T1
    have hq : wrap64 (IntKind.i16.wrap (n / 65536)) = v := by rw [i16_wrap, ← hv.out]; simp only [wrap64]; omega
    clear T0
    go_enter Try.func34, Try.ntmps34
    go_wp2_with fail
    with_reducible refine (put_any w H.out (by omega) 20 r 0 0 v).mono ?_
    rintro e w1 ⟨rfl, vc1, hA1, hb1⟩
    have A1 := Lib.hid hA1
    have B1 := Lib.hid hb1
    clear hA1 hb1
    go_wp2_with fail
    go_loopg [3] 1 (fun gk i wx => ∃ (j : Nat) (cs : List Int) (vc' : Value), i = .int .i64 j ∧ gk = j ∧ j ≤ 1 ∧ cs ++ As.tailP r n j = As.number r n 2 ∧ cs.length ≤ 4 ∧ ASt B wx g lb pb mb L (.slice al l.length cl) vc' l bs ps (code ++ cs) ∧ Below B w wx)
    case atStart => exact ⟨1, [Rs.encW 20 r 0 0 v], vc1, rfl, rfl, Nat.le_refl _, by rw [T1.out]; rfl, by simp, A1.out, B1.out⟩
    case round =>
      obtain ⟨j, cs, vc', rfl, hgk, hj, hcs, hcl, hA, hb⟩ := hrel
      have HCS := Lib.hid hcs
      have HCL := Lib.hid hcl
      have HA := Lib.hid hA
      have HB := Lib.hid hb
      clear hcs hcl hA hb
      rcases (by omega : j = 0 ∨ j = 1 ∨ j = 2 ∨ j = 3) with rfl | rfl | rfl | rfl
      · go_wp2_with fail
        go_end0
        refine ⟨rfl, vc', ?_, HB.out⟩
        have e := HCS.out
        rw [show As.tailP r n 0 = [] from rfl, List.append_nil] at e
        rw [← e]
        exact HA.out
      · go_wp2_with fail
        with_reducible refine (put_any _ HA.out (by have := HCL.out; simp; omega) 21 r 0 0 (n % 65536)).mono ?_
        rintro e w2 ⟨rfl, vc2, hA2, hb2⟩
        have HA2 := Lib.hid hA2
        have HB2 := Lib.hid (HB.out.trans hb2)
        have HT : Hid (As.tailP r n 1 = Rs.encW 21 r 0 0 (n % 65536) :: As.tailP r n 0) := by show _ :: _ = _; simp
        clear hA2 hb2
        go_wp2_with fail
        go_roundg 0
        case measure => omega
        case rel =>
          refine ⟨0, cs ++ [Rs.encW 21 r 0 0 (n % 65536)], vc2, by go_num, rfl, by omega, ?_, ?_, ?_, HB2.out⟩
          · have e := HCS.out; rw [HT.out] at e; rw [← e]; simp
          · have e := congrArg List.length HCS.out; have e2 := As.number_length r n (k := 2) (by omega); rw [e2] at e; simp [As.tailP_length] at e ⊢; omega
          · rw [← List.append_assoc]; exact HA2.out
      · omega
      · omega
  · have T1 : Hid (As.number r n 3 = Rs.encW 20 r 0 0 ((n / 4294967296 + 32768) % 65536 - 32768) :: As.tailP r n 2) := by unfold Hid; have e := T0.out; simpa using e
    obtain ⟨v, hv⟩ : ∃ v, Hid ((n / 4294967296 + 32768) % 65536 - 32768 = v) := ⟨_, rfl⟩
    rw [hv.out] at T1
    have hq : wrap64 (IntKind.i16.wrap (n / 4294967296)) = v := by rw [i16_wrap, ← hv.out]; simp only [wrap64]; omega
    clear T0
    go_enter Try.func34, Try.ntmps34
    go_wp2_with fail
    with_reducible refine (put_any w H.out (by omega) 20 r 0 0 v).mono ?_
    rintro e w1 ⟨rfl, vc1, hA1, hb1⟩
    have A1 := Lib.hid hA1
    have B1 := Lib.hid hb1
    clear hA1 hb1
    go_wp2_with fail
    go_loopg [3] 2 (fun gk i wx => ∃ (j : Nat) (cs : List Int) (vc' : Value), i = .int .i64 j ∧ gk = j ∧ j ≤ 2 ∧ cs ++ As.tailP r n j = As.number r n 3 ∧ cs.length ≤ 4 ∧ ASt B wx g lb pb mb L (.slice al l.length cl) vc' l bs ps (code ++ cs) ∧ Below B w wx)
    case atStart => exact ⟨2, [Rs.encW 20 r 0 0 v], vc1, rfl, rfl, Nat.le_refl _, by rw [T1.out]; rfl, by simp, A1.out, B1.out⟩
    case round =>
      obtain ⟨j, cs, vc', rfl, hgk, hj, hcs, hcl, hA, hb⟩ := hrel
      have HCS := Lib.hid hcs
      have HCL := Lib.hid hcl
      have HA := Lib.hid hA
      have HB := Lib.hid hb
      clear hcs hcl hA hb
      rcases (by omega : j = 0 ∨ j = 1 ∨ j = 2 ∨ j = 3) with rfl | rfl | rfl | rfl
      · go_wp2_with fail
        go_end0
        refine ⟨rfl, vc', ?_, HB.out⟩
        have e := HCS.out
        rw [show As.tailP r n 0 = [] from rfl, List.append_nil] at e
        rw [← e]
        exact HA.out
      · go_wp2_with fail
        with_reducible refine (put_any _ HA.out (by have := HCL.out; simp; omega) 21 r 0 0 (n % 65536)).mono ?_
        rintro e w2 ⟨rfl, vc2, hA2, hb2⟩
        have HA2 := Lib.hid hA2
        have HB2 := Lib.hid (HB.out.trans hb2)
        have HT : Hid (As.tailP r n 1 = Rs.encW 21 r 0 0 (n % 65536) :: As.tailP r n 0) := by show _ :: _ = _; simp
        clear hA2 hb2
        go_wp2_with fail
        go_roundg 0
        case measure => omega
        case rel =>
          refine ⟨0, cs ++ [Rs.encW 21 r 0 0 (n % 65536)], vc2, by go_num, rfl, by omega, ?_, ?_, ?_, HB2.out⟩
          · have e := HCS.out; rw [HT.out] at e; rw [← e]; simp
          · have e := congrArg List.length HCS.out; have e2 := As.number_length r n (k := 3) (by omega); rw [e2] at e; simp [As.tailP_length] at e ⊢; omega
          · rw [← List.append_assoc]; exact HA2.out
      · go_wp2_with fail
        with_reducible refine (put_any _ HA.out (by have := HCL.out; simp; omega) 21 r 0 0 (n / 65536 % 65536)).mono ?_
        rintro e w2 ⟨rfl, vc2, hA2, hb2⟩
        have HA2 := Lib.hid hA2
        have HB2 := Lib.hid (HB.out.trans hb2)
        have HT : Hid (As.tailP r n 2 = Rs.encW 21 r 0 0 (n / 65536 % 65536) :: As.tailP r n 1) := by show _ :: _ = _; simp
        clear hA2 hb2
        go_wp2_with fail
        go_roundg 1
        case measure => omega
        case rel =>
          refine ⟨1, cs ++ [Rs.encW 21 r 0 0 (n / 65536 % 65536)], vc2, by go_num, rfl, by omega, ?_, ?_, ?_, HB2.out⟩
          · have e := HCS.out; rw [HT.out] at e; rw [← e]; simp
          · have e := congrArg List.length HCS.out; have e2 := As.number_length r n (k := 3) (by omega); rw [e2] at e; simp [As.tailP_length] at e ⊢; omega
          · rw [← List.append_assoc]; exact HA2.out
      · omega
  · have T1 : Hid (As.number r n 4 = Rs.encW 20 r 0 0 ((n / 281474976710656 + 32768) % 65536 - 32768) :: As.tailP r n 3) := by unfold Hid; have e := T0.out; simpa using e
    obtain ⟨v, hv⟩ : ∃ v, Hid ((n / 281474976710656 + 32768) % 65536 - 32768 = v) := ⟨_, rfl⟩
    rw [hv.out] at T1
    have hq : wrap64 (IntKind.i16.wrap (n / 281474976710656)) = v := by rw [i16_wrap, ← hv.out]; simp only [wrap64]; omega
    clear T0
    go_enter Try.func34, Try.ntmps34
    go_wp2_with fail
    with_reducible refine (put_any w H.out (by omega) 20 r 0 0 v).mono ?_
    rintro e w1 ⟨rfl, vc1, hA1, hb1⟩
    have A1 := Lib.hid hA1
    have B1 := Lib.hid hb1
    clear hA1 hb1
    go_wp2_with fail
    go_loopg [3] 3 (fun gk i wx => ∃ (j : Nat) (cs : List Int) (vc' : Value), i = .int .i64 j ∧ gk = j ∧ j ≤ 3 ∧ cs ++ As.tailP r n j = As.number r n 4 ∧ cs.length ≤ 4 ∧ ASt B wx g lb pb mb L (.slice al l.length cl) vc' l bs ps (code ++ cs) ∧ Below B w wx)
    case atStart => exact ⟨3, [Rs.encW 20 r 0 0 v], vc1, rfl, rfl, Nat.le_refl _, by rw [T1.out]; rfl, by simp, A1.out, B1.out⟩
    case round =>
      obtain ⟨j, cs, vc', rfl, hgk, hj, hcs, hcl, hA, hb⟩ := hrel
      have HCS := Lib.hid hcs
      have HCL := Lib.hid hcl
      have HA := Lib.hid hA
      have HB := Lib.hid hb
      clear hcs hcl hA hb
      rcases (by omega : j = 0 ∨ j = 1 ∨ j = 2 ∨ j = 3) with rfl | rfl | rfl | rfl
      · go_wp2_with fail
        go_end0
        refine ⟨rfl, vc', ?_, HB.out⟩
        have e := HCS.out
        rw [show As.tailP r n 0 = [] from rfl, List.append_nil] at e
        rw [← e]
        exact HA.out
      · go_wp2_with fail
        with_reducible refine (put_any _ HA.out (by have := HCL.out; simp; omega) 21 r 0 0 (n % 65536)).mono ?_
        rintro e w2 ⟨rfl, vc2, hA2, hb2⟩
        have HA2 := Lib.hid hA2
        have HB2 := Lib.hid (HB.out.trans hb2)
        have HT : Hid (As.tailP r n 1 = Rs.encW 21 r 0 0 (n % 65536) :: As.tailP r n 0) := by show _ :: _ = _; simp
        clear hA2 hb2
        go_wp2_with fail
        go_roundg 0
        case measure => omega
        case rel =>
          refine ⟨0, cs ++ [Rs.encW 21 r 0 0 (n % 65536)], vc2, by go_num, rfl, by omega, ?_, ?_, ?_, HB2.out⟩
          · have e := HCS.out; rw [HT.out] at e; rw [← e]; simp
          · have e := congrArg List.length HCS.out; have e2 := As.number_length r n (k := 4) (by omega); rw [e2] at e; simp [As.tailP_length] at e ⊢; omega
          · rw [← List.append_assoc]; exact HA2.out
      · go_wp2_with fail
        with_reducible refine (put_any _ HA.out (by have := HCL.out; simp; omega) 21 r 0 0 (n / 65536 % 65536)).mono ?_
        rintro e w2 ⟨rfl, vc2, hA2, hb2⟩
        have HA2 := Lib.hid hA2
        have HB2 := Lib.hid (HB.out.trans hb2)
        have HT : Hid (As.tailP r n 2 = Rs.encW 21 r 0 0 (n / 65536 % 65536) :: As.tailP r n 1) := by show _ :: _ = _; simp
        clear hA2 hb2
        go_wp2_with fail
        go_roundg 1
        case measure => omega
        case rel =>
          refine ⟨1, cs ++ [Rs.encW 21 r 0 0 (n / 65536 % 65536)], vc2, by go_num, rfl, by omega, ?_, ?_, ?_, HB2.out⟩
          · have e := HCS.out; rw [HT.out] at e; rw [← e]; simp
          · have e := congrArg List.length HCS.out; have e2 := As.number_length r n (k := 4) (by omega); rw [e2] at e; simp [As.tailP_length] at e ⊢; omega
          · rw [← List.append_assoc]; exact HA2.out
      · go_wp2_with fail
        with_reducible refine (put_any _ HA.out (by have := HCL.out; simp; omega) 21 r 0 0 (n / 4294967296 % 65536)).mono ?_
        rintro e w2 ⟨rfl, vc2, hA2, hb2⟩
        have HA2 := Lib.hid hA2
        have HB2 := Lib.hid (HB.out.trans hb2)
        have HT : Hid (As.tailP r n 3 = Rs.encW 21 r 0 0 (n / 4294967296 % 65536) :: As.tailP r n 2) := by show _ :: _ = _; simp
        clear hA2 hb2
        go_wp2_with fail
        go_roundg 2
        case measure => omega
        case rel =>
          refine ⟨2, cs ++ [Rs.encW 21 r 0 0 (n / 4294967296 % 65536)], vc2, by go_num, rfl, by omega, ?_, ?_, ?_, HB2.out⟩
          · have e := HCS.out; rw [HT.out] at e; rw [← e]; simp
          · have e := congrArg List.length HCS.out; have e2 := As.number_length r n (k := 4) (by omega); rw [e2] at e; simp [As.tailP_length] at e ⊢; omega
          · rw [← List.append_assoc]; exact HA2.out
end Go.Proofs.Ytbcpflogkniojaa
