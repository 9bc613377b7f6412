/- Two lists that are the same. -/
import Derived.Test.YtbcpflogkniojaaQMA
import Derived.Deep.LoopGhost
import Derived.Lib.Hide
import Derived.Deep.Draws
import Derived.BigQuiet
namespace Go.Proofs.Ytbcpflogkniojaa
open Go.RowKit
set_option linter.unusedVariables false
set_option linter.unusedSimpArgs false
set_option maxHeartbeats 4000000 in
theorem same21 (l : List Int) (a b : Option Addr) (ca cb : Nat) (w : World) (ha : Sl w (.slice a l.length ca) (l.map (Value.int .u32))) (hb : Sl w (.slice b l.length cb) (l.map (Value.int .u32))) (hlen : l.length ≤ 1000000000000) :
    Calls Try.prog 10 #[.slice a l.length ca, .slice b l.length cb] w fun e w' => e = .returned (.bool true) ∧ ∃ nd, w' = w.drewN nd := by
  have HA := Lib.hid ha
  have HB := Lib.hid hb
  clear ha hb
  have hll : Hid ((l.map (Value.int .u32)).length = l.length) := by unfold Hid; simp
  go_enter Try.func10, Try.ntmps10
  go_wp2_with fail
  go_loopg [5] l.length (fun g i wx => ∃ k : Nat, k ≤ l.length ∧ g = l.length - k ∧ i = .int .i64 k ∧ ∃ nd, wx = World.drewN w nd)
  case atStart => exact ⟨0, Nat.zero_le _, rfl, rfl, 0, rfl⟩
  case round =>
    obtain ⟨k, hk, rfl, rfl, nd, hwr⟩ := hrel
    have HWR := Lib.hid hwr
    by_cases hlt : k < l.length
    · have hne : l.map (Value.int .u32) ≠ [] := by intro h; have h2 := congrArg List.length h; rw [hll.out] at h2; rw [h2] at hlt; simp at hlt
      obtain ⟨ba, oa, hae, hal, hac⟩ := Sl.at (by have h := HA.out; rw [← hll.out] at h; exact h) hne
      obtain ⟨bb, ob, hbe, hbl, hbc⟩ := Sl.at (by have h := HB.out; rw [← hll.out] at h; exact h) hne
      subst hae
      subst hbe
      have hget : (l.map (Value.int .u32)).getD k undef = .int .u32 (l.getD k 0) := by
        simp [List.getD_eq_getElem?_getD, List.getElem?_map, List.getElem?_eq_getElem hlt]
      have ea : wr.cell? ⟨ba, oa + k, none⟩ = some (.int .u32 (l.getD k 0)) := by rw [hwr, ← hget]; exact hac k (by rw [hll.out]; exact hlt)
      have eb : wr.cell? ⟨bb, ob + k, none⟩ = some (.int .u32 (l.getD k 0)) := by rw [hwr, ← hget]; exact hbc k (by rw [hll.out]; exact hlt)
      clear hac hbc hget hne hwr
      have hg1 : (0 : Int) ≤ k := by omega
      have hg2 : (k : Int) < l.length := by omega
      have hgw : IntKind.i64.wrap ((k : Int) + 1) = k + 1 := by rw [IntKind.wrap_i64]; omega
      go_wp2_with fail
      go_quiet (fail)
      go_wp2_with fail
      go_roundg (l.length - (k + 1))
      case measure => omega
      case rel => exact ⟨k + 1, by omega, rfl, by go_num, nd + nq, by rw [HWR.out, World.drewN_drewN]⟩
    · have hge : (l.length : Int) ≤ k := by omega
      clear hwr
      go_wp2_with fail
      go_ret
      exact ⟨rfl, nd, HWR.out⟩
set_option maxHeartbeats 4000000 in
theorem same17 (l : List Int) (a b : Option Addr) (ca cb : Nat) (w : World) (ha : Sl w (.slice a l.length ca) (l.map (Value.int .i64))) (hb : Sl w (.slice b l.length cb) (l.map (Value.int .i64))) (hlen : l.length ≤ 1000000000000) :
    Calls Try.prog 11 #[.slice a l.length ca, .slice b l.length cb] w fun e w' => e = .returned (.bool true) ∧ ∃ nd, w' = w.drewN nd := by
  have HA := Lib.hid ha
  have HB := Lib.hid hb
  clear ha hb
  have hll : Hid ((l.map (Value.int .i64)).length = l.length) := by unfold Hid; simp
  go_enter Try.func11, Try.ntmps11
  go_wp2_with fail
  go_loopg [5] l.length (fun g i wx => ∃ k : Nat, k ≤ l.length ∧ g = l.length - k ∧ i = .int .i64 k ∧ ∃ nd, wx = World.drewN w nd)
  case atStart => exact ⟨0, Nat.zero_le _, rfl, rfl, 0, rfl⟩
  case round =>
    obtain ⟨k, hk, rfl, rfl, nd, hwr⟩ := hrel
    have HWR := Lib.hid hwr
    by_cases hlt : k < l.length
    · have hne : l.map (Value.int .i64) ≠ [] := by intro h; have h2 := congrArg List.length h; rw [hll.out] at h2; rw [h2] at hlt; simp at hlt
      obtain ⟨ba, oa, hae, hal, hac⟩ := Sl.at (by have h := HA.out; rw [← hll.out] at h; exact h) hne
      obtain ⟨bb, ob, hbe, hbl, hbc⟩ := Sl.at (by have h := HB.out; rw [← hll.out] at h; exact h) hne
      subst hae
      subst hbe
      have hget : (l.map (Value.int .i64)).getD k undef = .int .i64 (l.getD k 0) := by
        simp [List.getD_eq_getElem?_getD, List.getElem?_map, List.getElem?_eq_getElem hlt]
      have ea : wr.cell? ⟨ba, oa + k, none⟩ = some (.int .i64 (l.getD k 0)) := by rw [hwr, ← hget]; exact hac k (by rw [hll.out]; exact hlt)
      have eb : wr.cell? ⟨bb, ob + k, none⟩ = some (.int .i64 (l.getD k 0)) := by rw [hwr, ← hget]; exact hbc k (by rw [hll.out]; exact hlt)
      clear hac hbc hget hne hwr
      have hg1 : (0 : Int) ≤ k := by omega
      have hg2 : (k : Int) < l.length := by omega
      have hgw : IntKind.i64.wrap ((k : Int) + 1) = k + 1 := by rw [IntKind.wrap_i64]; omega
      go_wp2_with fail
      go_quiet (fail)
      go_wp2_with fail
      go_roundg (l.length - (k + 1))
      case measure => omega
      case rel => exact ⟨k + 1, by omega, rfl, by go_num, nd + nq, by rw [HWR.out, World.drewN_drewN]⟩
    · have hge : (l.length : Int) ≤ k := by omega
      clear hwr
      go_wp2_with fail
      go_ret
      exact ⟨rfl, nd, HWR.out⟩
end Go.Proofs.Ytbcpflogkniojaa
