/- The small functions of the reference of assembly. -/
import Derived.Deep.LoopGhost
import Derived.Lib.Hide
import Derived.Test.YtaldcgfhlflcpaaAJas
set_option linter.unusedVariables false
set_option linter.unusedSimpArgs false
set_option linter.unnecessarySimpa false
namespace Go.Proofs.Ytaldcgfhlflcpaa
open Go.RowKit
set_option maxRecDepth 100000
set_option linter.unusedVariables false
set_option linter.unusedSimpArgs false
set_option maxHeartbeats 4000000 in
theorem rpieces_any (n : Int) (w : World) : Calls Try.prog 46 #[.int .i64 n] w fun e w' => e = .returned (.int .i64 (As.pieces n)) ∧ w = w' := by
  obtain ⟨p, hp⟩ : ∃ p, Hid (As.pieces n = p) := ⟨_, rfl⟩
  rw [hp.out]
  have H : Hid ((p = 1 ∧ -32768 ≤ n ∧ n ≤ 32767) ∨ (p = 2 ∧ ¬ (-32768 ≤ n ∧ n ≤ 32767) ∧ -2147483648 ≤ n ∧ n ≤ 2147483647) ∨ (p = 3 ∧ ¬ (-2147483648 ≤ n ∧ n ≤ 2147483647) ∧ -140737488355328 ≤ n ∧ n ≤ 140737488355327) ∨ (p = 4 ∧ ¬ (-140737488355328 ≤ n ∧ n ≤ 140737488355327))) := by
    unfold Hid
    rw [← hp.out]
    unfold As.pieces
    repeat' split
    all_goals omega
  clear hp
  go_enter Try.func46, Try.ntmps46
  go_wp2_with fail
  go_loopg [3] 3 (fun g i wr => ∃ k : Nat, 1 ≤ k ∧ k ≤ p ∧ g = 4 - k ∧ i = .int .i64 k ∧ w = wr)
  case atStart => exact ⟨1, by omega, by have := H.out; omega, rfl, rfl, rfl⟩
  case round =>
    obtain ⟨k, h1, h2, rfl, rfl, rfl⟩ := hrel
    have h4 : k ≤ 4 := by have := H.out; omega
    rcases (by omega : k = 1 ∨ k = 2 ∨ k = 3 ∨ k = 4) with rfl | rfl | rfl | rfl
    · by_cases hk : p = 1
      · have q1 : -32768 ≤ n := by have := H.out; omega
        have q2 : n ≤ 32767 := by have := H.out; omega
        subst hk
        go_wp2_with fail
        go_ret
        exact ⟨rfl, rfl⟩
      · rcases (by have := H.out; omega : ¬ -32768 ≤ n ∨ (-32768 ≤ n ∧ ¬ n ≤ 32767)) with q1 | ⟨q1, q2⟩
        all_goals
          go_wp2_with fail
          go_roundg 2
          case measure => omega
          case rel => exact ⟨2, by omega, by omega, rfl, by go_num, rfl⟩
    · by_cases hk : p = 2
      · have q1 : -32768 ≤ n / 65536 := by have := H.out; omega
        have q2 : n / 65536 ≤ 32767 := by have := H.out; omega
        subst hk
        go_wp2_with fail
        go_ret
        exact ⟨rfl, rfl⟩
      · rcases (by have := H.out; omega : ¬ -32768 ≤ n / 65536 ∨ (-32768 ≤ n / 65536 ∧ ¬ n / 65536 ≤ 32767)) with q1 | ⟨q1, q2⟩
        all_goals
          go_wp2_with fail
          go_roundg 1
          case measure => omega
          case rel => exact ⟨3, by omega, by omega, rfl, by go_num, rfl⟩
    · by_cases hk : p = 3
      · have q1 : -32768 ≤ n / 4294967296 := by have := H.out; omega
        have q2 : n / 4294967296 ≤ 32767 := by have := H.out; omega
        subst hk
        go_wp2_with fail
        go_ret
        exact ⟨rfl, rfl⟩
      · rcases (by have := H.out; omega : ¬ -32768 ≤ n / 4294967296 ∨ (-32768 ≤ n / 4294967296 ∧ ¬ n / 4294967296 ≤ 32767)) with q1 | ⟨q1, q2⟩
        all_goals
          go_wp2_with fail
          go_roundg 0
          case measure => omega
          case rel => exact ⟨4, by omega, by omega, rfl, by go_num, rfl⟩
    · have hk : p = 4 := by have := H.out; omega
      subst hk
      go_wp2_with fail
      go_ret
      exact ⟨rfl, rfl⟩
set_option maxHeartbeats 4000000 in
theorem names_any (x : As.It) (w : World) : Calls Try.prog 38 #[.agg #[.int .i64 x.kind, .int .i64 x.op, .int .i64 x.a, .int .i64 x.b, .int .i64 x.c, .int .i64 x.n, .int .i64 x.label, .int .i64 x.num]] w fun e w' => e = .returned (.bool (As.names x)) ∧ Below w.heap.size w w' := by
  obtain ⟨r, hr⟩ : ∃ r, Hid (As.names x = r) := ⟨_, rfl⟩
  rw [hr.out]
  have hr2 : Hid (((x.kind == 2) || (x.kind == 3) || (x.kind == 5)) = r) := by rw [← hr.out]; rfl
  obtain ⟨k, op, a, b, c, n, la, nu⟩ := x
  dsimp only at hr2 ⊢
  cases h2 : (k == 2) <;> cases h3 : (k == 3)
  all_goals
    go_enter Try.func38, Try.ntmps38
    go_wp2_with fail
    go_ret
    exact ⟨by rw [← hr2.out]; simp [h2, h3], (Below.refl _ _).alloc (Nat.le_refl _) _⟩
def As.findI (k : Int) (l : List As.It) : Int := match As.find k l with
  | some t => t
  | none => -1
theorem As.find_drop (k : Int) (l : List As.It) (i : Nat) (h : ∀ (j : Nat) (x : As.It), j < i → l[j]? = some x → As.isLabel x k = false) : As.find k l = (As.find k (l.drop i)).map (· + i) := by
  induction i generalizing l with
  | zero => cases hf : As.find k l <;> simp [hf]
  | succ i ih =>
    cases l with
    | nil => simp [As.find]
    | cons x l =>
      have h0 := h 0 x (by omega) rfl
      rw [As.find, if_neg (by rw [h0]; decide), List.drop_succ_cons, ih l (fun j y hj hy => h (j + 1) y (by omega) (by simpa using hy))]
      cases As.find k (l.drop i) <;> simp; omega
set_option maxHeartbeats 4000000 in
theorem find_any (l : List As.It) (k : Int) (a : Option Addr) (cap : Nat) (w : World) (h : ISl w (.slice a l.length cap) l) (hlen : l.length ≤ 1000000000000) : Calls Try.prog 31 #[.slice a l.length cap, .int .i64 k] w fun e w' => e = .returned (.int .i64 (As.findI k l)) ∧ w = w' := by
  have H := Lib.hid h
  clear h
  go_enter Try.func31, Try.ntmps31
  go_wp2_with fail
  go_loopg [5] l.length (fun g i wr => ∃ j : Nat, j ≤ l.length ∧ g = l.length - j ∧ i = .int .i64 j ∧ (∀ (q : Nat) (x : As.It), q < j → l[q]? = some x → As.isLabel x k = false) ∧ w = wr)
  case atStart => exact ⟨0, Nat.zero_le _, rfl, rfl, fun q x hq => by omega, rfl⟩
  case round =>
    obtain ⟨j, hj, rfl, rfl, hno, rfl⟩ := hrel
    have HNO := Lib.hid hno
    clear hno
    by_cases hlt : j < l.length
    · obtain ⟨x, hx⟩ : ∃ x, l[j]? = some x := ⟨_, List.getElem?_eq_getElem hlt⟩
      obtain ⟨b, off, rfl, hb, hat⟩ := H.out.at (by intro e; rw [e] at hlt; simp at hlt)
      have c0 := (hat j x hx).c0
      have c6 := (hat j x hx).c6
      have HX := Lib.hid hx
      have hg1 : (0 : Int) ≤ j := by omega
      have hg2 : (j : Int) < l.length := by omega
      have hgw : IntKind.i64.wrap ((j : Int) + 1) = j + 1 := by rw [IntKind.wrap_i64]; omega
      clear hat hx
      have HL : Hid (As.isLabel x k = ((x.kind == 1) && (x.label == k))) := rfl
      cases h1 : (x.kind == 1) <;> cases h2 : (x.label == k)
      case true.true =>
        have HF : Hid (As.findI k l = j) := by
          unfold Hid As.findI
          rw [As.find_drop k l j HNO.out, List.drop_eq_getElem_cons hlt]
          have hx2 : l[j] = x := by have := HX.out; rw [List.getElem?_eq_getElem hlt] at this; simpa using this
          rw [hx2, As.find, if_pos (by rw [HL.out, h1, h2]; rfl)]
          simp
        go_wp2_with fail
        go_ret
        rw [HF.out]
        exact ⟨rfl, rfl⟩
      all_goals
        go_wp2_with fail
        go_roundg (l.length - (j + 1))
        case measure => omega
        case rel =>
          refine ⟨j + 1, by omega, rfl, by go_num, fun q y hq hy => ?_, rfl⟩
          by_cases hqj : q < j
          · exact HNO.out q y hqj hy
          · obtain rfl : q = j := by omega
            rw [HX.out] at hy
            injection hy with hy
            rw [← hy, HL.out, h1, h2]; rfl
    · have HF : Hid (As.findI k l = -1) := by
        unfold Hid As.findI
        rw [(As.find_drop k l j HNO.out), List.drop_of_length_le (by omega)]
        rfl
      have hge : (l.length : Int) ≤ j := by omega
      go_wp2_with fail
      go_ret
      rw [HF.out]
      exact ⟨rfl, rfl⟩
end Go.Proofs.Ytaldcgfhlflcpaa
