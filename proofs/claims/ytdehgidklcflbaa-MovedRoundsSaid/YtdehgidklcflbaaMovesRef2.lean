/- The walks of May and Rounds. -/
import Derived.Test.YtdehgidklcflbaaMovesRef
namespace Go.Proofs.Ytdehgidklcflbaa
open Go.RowKit
set_option linter.unusedVariables false

def tos (l : List (Int × Int)) (j : Nat) : Int := (l.getD j (0, 0)).1
def frs (l : List (Int × Int)) (j : Nat) : Int := (l.getD j (0, 0)).2

theorem getD_mem {l : List (Int × Int)} {j : Nat} (h : j < l.length) : l.getD j (0, 0) ∈ l := by
  rw [List.getD_eq_getElem?_getD, List.getElem?_eq_getElem h]
  exact List.getElem_mem h
theorem mem_getD {l : List (Int × Int)} {m : Int × Int} (h : m ∈ l) : ∃ j, j < l.length ∧ l.getD j (0, 0) = m := by
  obtain ⟨j, hj, e⟩ := List.getElem_of_mem h
  refine ⟨j, hj, ?_⟩
  rw [List.getD_eq_getElem?_getD, List.getElem?_eq_getElem hj]
  exact e

theorem may_of {l : List (Int × Int)} {spare : Int} (h1 : ∀ j, j < l.length → tos l j ≠ spare ∧ frs l j ≠ spare) (h2 : ∀ j, j < l.length → ∀ i, i < j → tos l i ≠ tos l j) : Mv.may spare l [] = true := by
  rw [Mv.may_iff]
  refine ⟨fun m hm => ?_, ?_⟩
  · obtain ⟨j, hj, rfl⟩ := mem_getD hm
    exact ⟨rfl, h1 j hj⟩
  · unfold List.Nodup Mv.keys
    rw [List.pairwise_iff_getElem]
    intro i j hi hj hij
    simp only [List.length_map] at hi hj
    have := h2 j hj i hij
    unfold tos at this
    rw [List.getD_eq_getElem?_getD, List.getElem?_eq_getElem hi, List.getD_eq_getElem?_getD, List.getElem?_eq_getElem hj] at this
    simpa using this
theorem may_tos {l : List (Int × Int)} {spare : Int} (h : Mv.may spare l [] = true) {j : Nat} (hj : j < l.length) : tos l j ≠ spare ∧ frs l j ≠ spare :=
  (((Mv.may_iff _ _ _).1 h).1 _ (getD_mem hj)).2
theorem may_twice {l : List (Int × Int)} {spare : Int} (h : Mv.may spare l [] = true) {i j : Nat} (hij : i < j) (hj : j < l.length) : tos l i ≠ tos l j := by
  have hn := ((Mv.may_iff _ _ _).1 h).2
  unfold List.Nodup Mv.keys at hn
  rw [List.pairwise_iff_getElem] at hn
  have := hn i j (by simpa using (by omega : i < l.length)) (by simpa using hj) hij
  unfold tos
  rw [List.getD_eq_getElem?_getD, List.getElem?_eq_getElem (by omega : i < l.length), List.getD_eq_getElem?_getD, List.getElem?_eq_getElem hj]
  simpa using this
theorem not_may {l : List (Int × Int)} {spare : Int} {P : Prop} (hP : P) (h : Mv.may spare l [] = true → ¬ P) : Mv.may spare l [] = false := by
  cases hm : Mv.may spare l [] with
  | false => rfl
  | true => exact absurd hP (h hm)

def mayB (l : List (Int × Int)) (spare : Int) : Bool := decide (l.length ≤ 1000) && Mv.may spare l []

set_option maxHeartbeats 1000000 in
theorem may_any (v : Value) (l : List (Int × Int)) (spare : Int) (w : World) (h : MSl w v l) (hlen : l.length ≤ 9223372036854775807) :
    Calls Try.prog 9 #[v, .int .i64 spare] w fun e w' => e = .returned (.bool (mayB l spare)) ∧ ∃ n, w' = w.drewN n := by
  obtain ⟨a, cap, rfl, h⟩ := h
  by_cases hbig : 1000 < l.length
  · have hr : Hid (mayB l spare = false) := by unfold Hid mayB; rw [decide_eq_false (by omega)]; rfl
    have hb2 : (1000 : Int) < (l.length : Int) := by omega
    go_enter Try.func9, Try.ntmps9
    go_wp2
    go_ret
    rw [hr.out]
    exact ⟨rfl, 0, rfl⟩
  have hmb : Hid (mayB l spare = Mv.may spare l []) := by unfold Hid mayB; rw [decide_eq_true (by omega)]; rfl
  rw [hmb.out]
  rcases h with rfl | ⟨b, off, rfl, hb, hl⟩
  · go_enter Try.func9, Try.ntmps9
    go_wp2_with fail
    refine wp_loop_rounds 1 ?_
    rw [rounds_succ]
    go_wp2
    go_ret
    exact ⟨rfl, 0, rfl⟩
  · have HL := Lib.hid hl
    clear hl
    go_enter Try.func9, Try.ntmps9
    go_wp2_with fail
    go_loopg [5] l.length (fun g i wr => ∃ k : Nat, k ≤ l.length ∧ g = l.length - k ∧ i = .int .i64 k ∧ (∀ j, j < k → tos l j ≠ spare ∧ frs l j ≠ spare) ∧ (∀ j, j < k → ∀ i, i < j → tos l i ≠ tos l j) ∧ ∃ nd, wr = w.drewN nd)
    case atStart => exact ⟨0, Nat.zero_le _, rfl, rfl, fun j hj => by omega, fun j hj => by omega, 0, rfl⟩
    case round =>
      obtain ⟨k, hk, rfl, rfl, h1, h2, nd, rfl⟩ := hrel
      have H1 := Lib.hid h1
      have H2 := Lib.hid h2
      clear h1 h2
      by_cases hlt : k < l.length
      · obtain ⟨t, f, hm⟩ := getD_pair l k
        have hcells := HL.out k hlt
        rw [hm.out] at hcells
        obtain ⟨m0, m1⟩ := hcells
        have ht : Hid (tos l k = t) := by unfold Hid tos; rw [hm.out]
        have hf : Hid (frs l k = f) := by unfold Hid frs; rw [hm.out]
        by_cases e1 : t = spare
        · have hr : Hid (Mv.may spare l [] = false) := not_may e1 (fun hm2 e => (may_tos hm2 hlt).1 (by rw [ht.out]; exact e))
          have b1 : (t == spare) = true := by rw [beq_iff_eq]; exact e1
          clear e1
          go_wp2
          go_ret
          rw [hr.out]
          exact ⟨rfl, _, rfl⟩
        have b1 : (t == spare) = false := by rw [beq_eq_false_iff_ne]; exact e1
        by_cases e2 : f = spare
        · have hr : Hid (Mv.may spare l [] = false) := not_may e2 (fun hm2 e => (may_tos hm2 hlt).2 (by rw [hf.out]; exact e))
          have b2 : (f == spare) = true := by rw [beq_iff_eq]; exact e2
          clear e1 e2
          go_wp2
          go_ret
          rw [hr.out]
          exact ⟨rfl, _, rfl⟩
        have b2 : (f == spare) = false := by rw [beq_eq_false_iff_ne]; exact e2
        have HE := Lib.hid (And.intro e1 e2)
        clear e1 e2
        go_wp2_with fail
        go_loopg [6] k (fun g i wx => ∃ j : Nat, j ≤ k ∧ g = k - j ∧ i = .int .i64 j ∧ (∀ i, i < j → tos l i ≠ t) ∧ ∃ nd, wx = w.drewN nd)
        case atStart => exact ⟨0, Nat.zero_le _, rfl, rfl, fun i hi => by omega, nd, rfl⟩
        case round =>
          obtain ⟨j, hj, rfl, rfl, h3, nd2, rfl⟩ := hrel
          have H3 := Lib.hid h3
          clear h3
          by_cases hjk : j < k
          · obtain ⟨t2, f2, hm2⟩ := getD_pair l j
            have hcells := HL.out j (by omega)
            rw [hm2.out] at hcells
            obtain ⟨q0, q1⟩ := hcells
            have ht2 : Hid (tos l j = t2) := by unfold Hid tos; rw [hm2.out]
            by_cases e3 : t2 = t
            · have hr : Hid (Mv.may spare l [] = false) := not_may e3 (fun hm3 e => may_twice hm3 hjk hlt (by rw [ht.out, ht2.out]; exact e))
              have b3 : (t2 == t) = true := by rw [beq_iff_eq]; exact e3
              clear e3
              go_wp2_with fail
              go_quiet (fail)
              go_wp2
              go_ret
              rw [hr.out]
              exact ⟨rfl, nd2 + nq, by simp⟩
            · have b3 : (t2 == t) = false := by rw [beq_eq_false_iff_ne]; exact e3
              have H4 : Hid (∀ i, i < j + 1 → tos l i ≠ t) := by
                intro i hi
                by_cases h : i < j
                · exact H3.out i h
                · have : i = j := by omega
                  subst this
                  rw [ht2.out]; exact e3
              clear e3
              go_wp2_with fail
              go_quiet (fail)
              go_wp2
              go_roundg (k - (j + 1))
              case measure => omega
              case rel => exact ⟨j + 1, by omega, rfl, by go_num, H4.out, _, rfl⟩
          · obtain rfl : j = k := by omega
            have H4 : Hid (∀ i, i < j + 1 → tos l i ≠ spare ∧ frs l i ≠ spare) := by
              intro i hi
              by_cases h : i < j
              · exact H1.out i h
              · have : i = j := by omega
                subst this
                rw [ht.out, hf.out]; exact HE.out
            have H5 : Hid (∀ i, i < j + 1 → ∀ q, q < i → tos l q ≠ tos l i) := by
              intro i hi q hq
              by_cases h : i < j
              · exact H2.out i h q hq
              · have : i = j := by omega
                subst this
                rw [ht.out]; exact H3.out q hq
            go_wp2
            go_roundg (l.length - (j + 1))
            case measure => omega
            case rel => exact ⟨j + 1, by omega, rfl, by go_num, H4.out, H5.out, _, rfl⟩
      · obtain rfl : k = l.length := by omega
        have hr : Hid (Mv.may spare l [] = true) := may_of H1.out H2.out
        go_wp2
        go_ret
        rw [hr.out]
        exact ⟨rfl, _, rfl⟩

set_option maxHeartbeats 2000000 in
theorem rounds_any (v : Value) (l : List (Int × Int)) (w : World) (h : MSl w v l) (hlen : l.length ≤ 9223372036854775807) :
    Calls Try.prog 12 #[v] w fun e w' => e = .returned (.int .i64 (Mv.roots l : Nat)) ∧ w = w' := by
  have hM := h
  obtain ⟨a, cap, rfl, h⟩ := h
  rcases h with rfl | ⟨b, off, rfl, hb, hl⟩
  · go_enter Try.func12, Try.ntmps12
    go_wp2_with fail
    refine wp_loop_rounds 1 ?_
    rw [rounds_succ]
    go_wp2
    go_ret
    exact ⟨rfl, rfl⟩
  · have HL := Lib.hid hl
    have HM := Lib.hid hM
    clear hl hM
    go_enter Try.func12, Try.ntmps12
    go_wp2_with fail
    go_loopg [3, 4] l.length (fun g n i wr => ∃ (k c : Nat), k ≤ l.length ∧ g = l.length - k ∧ i = .int .i64 k ∧ n = .int .i64 c ∧ c ≤ k ∧ (l.take k).countP (Mv.root l) = c ∧ w = wr)
    case atStart => exact ⟨0, 0, Nat.zero_le _, rfl, rfl, rfl, Nat.le_refl _, rfl, rfl⟩
    case round =>
      obtain ⟨k, c, hk, rfl, rfl, rfl, hck, hc, rfl⟩ := hrel
      have HC := Lib.hid hc
      clear hc
      by_cases hlt : k < l.length
      · obtain ⟨t, f, hm⟩ := getD_pair l k
        have hcells := HL.out k hlt
        rw [hm.out] at hcells
        obtain ⟨m0, m1⟩ := hcells
        have htake : Hid (l.take (k + 1) = l.take k ++ [(t, f)]) := take_snoc_of hlt hm.out
        go_wp2_with fail
        go_loopg [5, 6, 7] l.length (fun g a le j wx => ∃ (a1 l1 : Int) (j1 : Nat), a = .int .i64 a1 ∧ le = .int .i64 l1 ∧ j = .int .i64 j1 ∧ j1 ≤ l.length ∧ g = l.length - j1 ∧ Mv.trail l t (l.length - j1) a1 l1 = Mv.trail l t l.length f t ∧ w = wx)
        case atStart => exact ⟨f, t, 0, rfl, rfl, rfl, Nat.zero_le _, rfl, rfl, rfl⟩
        case round =>
          obtain ⟨a1, l1, j1, rfl, rfl, rfl, hj1, rfl, htr, rfl⟩ := hrel
          have HT0 := Lib.hid htr
          clear htr
          by_cases hjl : j1 < l.length
          · by_cases he : a1 = t
            · have HTR : Hid (Mv.trail l t l.length f t = (a1, l1)) := by
                unfold Hid
                rw [← HT0.out]
                obtain ⟨q, hq⟩ : ∃ q, l.length - j1 = q + 1 := ⟨l.length - j1 - 1, by omega⟩
                rw [hq, Mv.trail, if_pos he]
              have g1 : (a1 != t) = false := by rw [bne_eq_false_iff_eq]; exact he
              clear he
              have hroot : Hid (Mv.root l (t, f) = ((a1 == t) && (l1 == a1) && (f != a1))) := by
                have hR := HTR.out
                unfold Hid Mv.root
                rw [hR]
                have e1 : (a1 == t) = decide (a1 = t) := rfl
                have e2 : (l1 == a1) = decide (l1 = a1) := rfl
                have e3 : (f != a1) = !decide (f = a1) := rfl
                rw [e1, e2, e3]
                simp only [ne_eq, decide_not]
              obtain ⟨cc, hcc⟩ : ∃ cc : Nat, Hid ((l.take (k + 1)).countP (Mv.root l) = cc) := ⟨_, rfl⟩
              cases b1 : (a1 == t) with
              | false =>
                have hc2 : Hid ((l.take (k + 1)).countP (Mv.root l) = c) := by
                  unfold Hid
                  rw [htake.out, List.countP_append, HC.out, List.countP_singleton, hroot.out, b1]
                  rfl
                clear hcc
                go_wp2
                go_roundg (l.length - (k + 1))
                case measure => omega
                case rel => exact ⟨k + 1, c, by omega, rfl, by go_num, rfl, by omega, hc2.out, rfl⟩
              | true =>
                cases b2 : (l1 == a1) with
                | false =>
                  have hc2 : Hid ((l.take (k + 1)).countP (Mv.root l) = c) := by
                    unfold Hid
                    rw [htake.out, List.countP_append, HC.out, List.countP_singleton, hroot.out, b1, b2]
                    rfl
                  clear hcc
                  go_wp2
                  go_roundg (l.length - (k + 1))
                  case measure => omega
                  case rel => exact ⟨k + 1, c, by omega, rfl, by go_num, rfl, by omega, hc2.out, rfl⟩
                | true =>
                  cases b3 : (f != a1) with
                  | false =>
                    have hc2 : Hid ((l.take (k + 1)).countP (Mv.root l) = c) := by
                      unfold Hid
                      rw [htake.out, List.countP_append, HC.out, List.countP_singleton, hroot.out, b1, b2, b3]
                      rfl
                    clear hcc
                    go_wp2
                    go_roundg (l.length - (k + 1))
                    case measure => omega
                    case rel => exact ⟨k + 1, c, by omega, rfl, by go_num, rfl, by omega, hc2.out, rfl⟩
                  | true =>
                    have hc2 : Hid ((l.take (k + 1)).countP (Mv.root l) = c + 1) := by
                      unfold Hid
                      rw [htake.out, List.countP_append, HC.out, List.countP_singleton, hroot.out, b1, b2, b3]
                      rfl
                    clear hcc
                    go_wp2
                    go_roundg (l.length - (k + 1))
                    case measure => omega
                    case rel => exact ⟨k + 1, c + 1, by omega, rfl, by go_num, by go_num, by omega, hc2.out, rfl⟩
            · have g1 : (a1 != t) = true := by rw [bne_iff_ne]; exact he
              have htq : ∃ q, l.length - j1 = q + 1 ∧ l.length - (j1 + 1) = q := ⟨l.length - j1 - 1, by omega, by omega⟩
              cases hlook : Mv.look l a1 with
              | none =>
                have HTR : Hid (Mv.trail l t l.length f t = (a1, l1)) := by
                  unfold Hid
                  rw [← HT0.out]
                  obtain ⟨q, hq, _⟩ := htq
                  rw [hq, Mv.trail, if_neg he, hlook]
                have hls : (Mv.look l a1).isSome = false := by rw [hlook]; rfl
                have hroot : Hid (Mv.root l (t, f) = ((a1 == t) && (l1 == a1) && (f != a1))) := by
                  have hR := HTR.out
                  unfold Hid Mv.root
                  rw [hR]
                  have e1 : (a1 == t) = decide (a1 = t) := rfl
                  have e2 : (l1 == a1) = decide (l1 = a1) := rfl
                  have e3 : (f != a1) = !decide (f = a1) := rfl
                  rw [e1, e2, e3]
                  simp only [ne_eq, decide_not]
                have b1 : (a1 == t) = false := by rw [beq_eq_false_iff_ne]; exact he
                have hc2 : Hid ((l.take (k + 1)).countP (Mv.root l) = c) := by
                  unfold Hid
                  rw [htake.out, List.countP_append, HC.out, List.countP_singleton, hroot.out, b1]
                  rfl
                clear he htq hlook
                go_wp2_with (first | (go_at_call 11; refine (whence_any _ l _ _ HM.out hlen).mono ?_; rintro e w' ⟨rfl, rfl⟩) | fail)
                go_roundg (l.length - (k + 1))
                case measure => omega
                case rel => exact ⟨k + 1, c, by omega, rfl, by go_num, rfl, by omega, hc2.out, rfl⟩
              | some nx =>
                have hls : (Mv.look l a1).isSome = true := by rw [hlook]; rfl
                have hlA : lookA l a1 = nx := by unfold lookA; rw [hlook]; rfl
                have hnext : Hid (Mv.trail l t (l.length - (j1 + 1)) nx (min l1 a1) = Mv.trail l t l.length f t) := by
                  unfold Hid
                  rw [← HT0.out]
                  obtain ⟨q, hq, hq2⟩ := htq
                  rw [hq, hq2, Mv.trail, if_neg he, hlook]
                clear he htq hlook
                by_cases hle : a1 < l1
                · have hmin : min l1 a1 = a1 := by omega
                  rw [hmin] at hnext
                  clear hmin
                  go_wp2_with (first | (go_at_call 11; refine (whence_any _ l _ _ HM.out hlen).mono ?_; rintro e w' ⟨rfl, rfl⟩) | fail)
                  go_roundg (l.length - (j1 + 1))
                  case measure => omega
                  case rel => exact ⟨nx, a1, j1 + 1, rfl, by go_num, by go_num, by omega, rfl, hnext.out, rfl⟩
                · have hmin : min l1 a1 = l1 := by omega
                  rw [hmin] at hnext
                  clear hmin
                  go_wp2_with (first | (go_at_call 11; refine (whence_any _ l _ _ HM.out hlen).mono ?_; rintro e w' ⟨rfl, rfl⟩) | fail)
                  go_roundg (l.length - (j1 + 1))
                  case measure => omega
                  case rel => exact ⟨nx, l1, j1 + 1, rfl, by go_num, by go_num, by omega, rfl, hnext.out, rfl⟩
          · have HTR : Hid (Mv.trail l t l.length f t = (a1, l1)) := by
              unfold Hid
              rw [← HT0.out, show l.length - j1 = 0 from by omega]
              rfl
            have hroot : Hid (Mv.root l (t, f) = ((a1 == t) && (l1 == a1) && (f != a1))) := by
              have hR := HTR.out
              unfold Hid Mv.root
              rw [hR]
              have e1 : (a1 == t) = decide (a1 = t) := rfl
              have e2 : (l1 == a1) = decide (l1 = a1) := rfl
              have e3 : (f != a1) = !decide (f = a1) := rfl
              rw [e1, e2, e3]
              simp only [ne_eq, decide_not]
            obtain ⟨cc, hcc⟩ : ∃ cc : Nat, Hid ((l.take (k + 1)).countP (Mv.root l) = cc) := ⟨_, rfl⟩
            cases b1 : (a1 == t) with
            | false =>
              have hc2 : Hid ((l.take (k + 1)).countP (Mv.root l) = c) := by
                unfold Hid
                rw [htake.out, List.countP_append, HC.out, List.countP_singleton, hroot.out, b1]
                rfl
              clear hcc
              go_wp2
              go_roundg (l.length - (k + 1))
              case measure => omega
              case rel => exact ⟨k + 1, c, by omega, rfl, by go_num, rfl, by omega, hc2.out, rfl⟩
            | true =>
              cases b2 : (l1 == a1) with
              | false =>
                have hc2 : Hid ((l.take (k + 1)).countP (Mv.root l) = c) := by
                  unfold Hid
                  rw [htake.out, List.countP_append, HC.out, List.countP_singleton, hroot.out, b1, b2]
                  rfl
                clear hcc
                go_wp2
                go_roundg (l.length - (k + 1))
                case measure => omega
                case rel => exact ⟨k + 1, c, by omega, rfl, by go_num, rfl, by omega, hc2.out, rfl⟩
              | true =>
                cases b3 : (f != a1) with
                | false =>
                  have hc2 : Hid ((l.take (k + 1)).countP (Mv.root l) = c) := by
                    unfold Hid
                    rw [htake.out, List.countP_append, HC.out, List.countP_singleton, hroot.out, b1, b2, b3]
                    rfl
                  clear hcc
                  go_wp2
                  go_roundg (l.length - (k + 1))
                  case measure => omega
                  case rel => exact ⟨k + 1, c, by omega, rfl, by go_num, rfl, by omega, hc2.out, rfl⟩
                | true =>
                  have hc2 : Hid ((l.take (k + 1)).countP (Mv.root l) = c + 1) := by
                    unfold Hid
                    rw [htake.out, List.countP_append, HC.out, List.countP_singleton, hroot.out, b1, b2, b3]
                    rfl
                  clear hcc
                  go_wp2
                  go_roundg (l.length - (k + 1))
                  case measure => omega
                  case rel => exact ⟨k + 1, c + 1, by omega, rfl, by go_num, by go_num, by omega, hc2.out, rfl⟩
      · have hc2 : Hid (Mv.roots l = c) := by
          unfold Hid Mv.roots
          have := HC.out
          rw [List.take_of_length_le (by omega)] at this
          exact this
        go_wp2
        go_ret
        rw [hc2.out]
        exact ⟨rfl, rfl⟩
end Go.Proofs.Ytdehgidklcflbaa
