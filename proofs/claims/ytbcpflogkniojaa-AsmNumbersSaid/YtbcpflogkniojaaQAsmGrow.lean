/- The assembler's grow. -/
import Derived.Test.YtbcpflogkniojaaQAsmLay
namespace Go.Proofs.Ytbcpflogkniojaa
open Go.RowKit
set_option linter.unusedVariables false
set_option linter.unusedSimpArgs false
theorem zeroInt (w : World) : (zeroValue 3).run Try.prog w = .ok (.int .i64 0) w := by
  have h : (Try.prog.info? 3).map (fun i => i.zero) = some (some (.int .i64 0)) := by kernel_rfl
  cases hq : Try.prog.info? 3 with
  | none => rw [hq] at h; cases h
  | some i =>
    rw [hq] at h
    have hz : i.zero = some (.int .i64 0) := by simpa using h
    simp [zeroValue, typeInfo, hq, hz]
theorem look_at {w : World} {mb : Nat} {L : List (Int × Value)} (h : AMap (fun n : Int => Value.int .i64 n) w mb L) (k : Int) (t : Nat) (hk : alook L k = some (.int .i64 t)) (n : Nat) :
    (Instr.lookup 52 (.map (some mb)) (.int .i64 k) false).run Try.prog (w.drewN n) = .ok (.int .i64 t) (w.drewN n) := by
  have := AMap.lookup (h.drewN n) (keyOk_int Try.underlying3) Try.underlying52 (zeroInt (w.drewN n)) k false
  rw [hk] at this
  exact this
theorem ASt.alloc' {B : Nat} {w : World} {g lb pb mb : Nat} {L : List (Int × Value)} {vl vc : Value} {l : List As.It} {bs : List Bool} {ps : List Nat} {code : List Int} (h : ASt B w g lb pb mb L vl vc l bs ps code) (o : Obj) : ASt B (w.alloc o) g lb pb mb L vl vc l bs ps code := h.below ((Below.refl _ _).alloc (Nat.le_refl _) o) (Nat.le_refl _)
/-- The labels stand in the map. -/
def Labels (l : List As.It) (L : List (Int × Value)) : Prop := ∀ (k : Int) (t : Nat), As.find k l = some t → alook L k = some (.int .i64 t)
theorem same_step {G bs : List Bool} {k : Nat} {b : Bool} (h1 : G[k]? = some b) (h2 : bs[k]? = some b) : G.take (k + 1) ++ bs.drop (k + 1) = G.take k ++ bs.drop k ∧ (!decide (G.take (k + 1) = bs.take (k + 1))) = !decide (G.take k = bs.take k) := by
  have hk : k < bs.length := (List.getElem?_eq_some_iff.1 h2).1
  have hb : bs[k] = b := by rw [List.getElem?_eq_getElem hk] at h2; simpa using h2
  refine ⟨?_, ?_⟩
  · rw [List.take_add_one, h1, List.drop_eq_getElem_cons hk, hb]; simp
  · have hg : k < G.length := (List.getElem?_eq_some_iff.1 h1).1
    rw [List.take_add_one, List.take_add_one, h1, h2]
    congr 2
    simp
theorem diff_step {G bs : List Bool} {k : Nat} (h1 : G[k]? = some true) (h2 : bs[k]? = some false) : (!decide (G.take (k + 1) = bs.take (k + 1))) = true := by
  rw [Bool.not_eq_true', decide_eq_false_iff_not]
  intro e
  have := congrArg (fun l : List Bool => l[k]?) e
  simp only [List.getElem?_take, if_pos (Nat.lt_succ_self k)] at this
  rw [h1, h2] at this
  cases this
set_option maxHeartbeats 8000000 in
set_option maxRecDepth 100000 in
theorem grow_any {B g lb pb mb : Nat} {L : List (Int × Value)} {al : Option Addr} {cl : Nat} {vc : Value} {l : List As.It} {bs : List Bool} {ps : List Nat} {code : List Int} (w : World) (h : ASt B w g lb pb mb L (.slice al l.length cl) vc l bs ps code) (hlen : l.length ≤ 65536) (hL : Labels l L) (hf : ∀ x ∈ l, As.names x = true → ∃ t, As.find x.label l = some t) (hps : ∀ p ∈ ps, p ≤ 262144) :
    Calls Try.prog 20 #[.pointer (some ⟨g, 0, none⟩)] w fun e w' => e = .returned (.bool (!decide (As.grow l ps l bs ps = bs))) ∧ ASt B w' g lb pb mb L (.slice al l.length cl) vc l (As.grow l ps l bs ps) ps code ∧ Below B w w' := by
  have H := Lib.hid h
  have c0 := h.c0
  obtain ⟨G, hG⟩ : ∃ G, Hid (As.grow l ps l bs ps = G) := ⟨_, rfl⟩
  have HGL : Hid (G.length = l.length) := by rw [← hG.out]; exact As.grow_length l ps l bs ps h.lbs h.lps
  rw [hG.out]
  have HB := Lib.hid h.base
  clear h
  go_enter Try.func20, Try.ntmps20
  go_wp2_with fail
  go_loopg [3, 12] l.length (fun gk mr i wx => ∃ k : Nat, k ≤ l.length ∧ gk = l.length - k ∧ i = .int .i64 k ∧ mr = .bool (!decide (G.take k = bs.take k)) ∧ ASt B wx g lb pb mb L (.slice al l.length cl) vc l (G.take k ++ bs.drop k) ps code ∧ Below B w wx)
  case atStart => exact ⟨0, Nat.zero_le _, rfl, rfl, by simp, by simpa using H.out, Below.refl _ _⟩
  case round =>
    clear c0
    obtain ⟨k, hk, rfl, rfl, rfl, hA, hb⟩ := hrel
    have HA := Lib.hid hA
    have HBB := Lib.hid hb
    by_cases hlt : k < l.length
    · obtain ⟨b, hbk⟩ : ∃ b, bs[k]? = some b := ⟨_, List.getElem?_eq_getElem (by have := H.out.lbs; omega)⟩
      obtain ⟨x, hx⟩ : ∃ x, l[k]? = some x := ⟨_, List.getElem?_eq_getElem hlt⟩
      obtain ⟨p, hp⟩ : ∃ p, ps[k]? = some p := ⟨_, List.getElem?_eq_getElem (by have := H.out.lps; omega)⟩
      have hGk : G[k]? = some (As.stretch l ps x b p) := by rw [← hG.out]; exact As.grow_get l ps l bs ps k x b p hx hbk hp
      obtain ⟨bl, off, hal, hbl, hat⟩ := HA.out.items.at (by intro e; rw [e] at hlt; simp at hlt)
      subst hal
      obtain ⟨d0, d1, d2, d3, d4, d5, d6, d7⟩ := hat k x hx
      have hnow : (G.take k ++ bs.drop k)[k]? = some b := by
        rw [List.getElem?_append_right (by simp; omega)]
        have e : k - (G.take k).length = 0 := by rw [List.length_take, HGL.out]; omega
        rw [e, List.getElem?_drop]
        simpa using hbk
      have c1 := hA.c1
      have c2 := hA.c2
      have c3 := hA.c3
      have cb := hA.cl hnow
      have cp := hA.cp hp
      have fb : wr.frozen? ⟨lb, k, none⟩ = false := frozen_of_row wr lb k _ _ hA.long
      have hg1 : (0 : Int) ≤ k := by omega
      have hg2 : (k : Int) < l.length := by omega
      have hgw : IntKind.i64.wrap ((k : Int) + 1) = k + 1 := by rw [IntKind.wrap_i64]; omega
      have hl1 : g < wr.heap.size := hA.lt.1
      have hl2 : lb < wr.heap.size := hA.lt.2.1
      have hl3 : pb < wr.heap.size := hA.lt.2.2
      have hpb := hps p (List.mem_of_getElem? hp)
      have HXL := Lib.hid hx
      have HBK := Lib.hid hbk
      have HGK := Lib.hid hGk
      have hxm := List.mem_of_getElem? hx
      have hBs : B ≤ wr.heap.size := by have := HB.out; omega
      clear hat hnow hbk hp hGk hA hb hx
      by_cases hk2 : x.kind = 2
      · cases b with
        | true =>
          have HS := Lib.hid (same_step (b := true) (by rw [HGK.out]; simp [As.stretch]) HBK.out)
          rw [hk2] at d0
          go_wp2_with fail
          go_roundg (l.length - (k + 1))
          case measure => omega
          case rel => exact ⟨k + 1, by omega, rfl, by go_num, by rw [HS.out.2], by rw [HS.out.1]; exact HA.out.alloc' _, HBB.out.alloc hBs _⟩
        | false =>
          obtain ⟨t, ht⟩ := hf x hxm (by simp [As.names, hk2])
          have htl := As.find_lt ht
          have hal := hL x.label t ht
          obtain ⟨q, hq⟩ : ∃ q, ps[t]? = some q := ⟨_, List.getElem?_eq_getElem (by have := H.out.lps; omega)⟩
          have hqb := hps q (List.mem_of_getElem? hq)
          have cq := HA.out.cp hq
          have hlk := look_at (HA.out.alloc' (.cells #[.int .i64 2, .int .i64 x.op, .int .i64 x.a, .int .i64 x.b, .int .i64 x.c, .int .i64 x.n, .int .i64 x.label, .int .i64 x.num] 35)).map x.label t hal
          have hgs : IntKind.i64.wrap ((q : Int) - p) = (q : Int) - p := by rw [IntKind.wrap_i64]; omega
          have hst : Hid (As.stretch l ps x false p = (decide ((q : Int) - p < -512) || decide (511 < (q : Int) - p))) := by
            unfold Hid As.stretch As.far
            rw [ht, Option.bind_some, hq]
            simp [hk2]
          have hg3 : (0 : Int) ≤ t := by omega
          have hg4 : (t : Int) < l.length := by omega
          rw [hk2] at d0
          clear ht hal hq hL hf
          rcases (by omega : (q : Int) - p < -512 ∨ (-512 ≤ (q : Int) - p ∧ 511 < (q : Int) - p) ∨ (-512 ≤ (q : Int) - p ∧ (q : Int) - p ≤ 511)) with z1 | ⟨z1, z2⟩ | ⟨z1, z2⟩
          · have hGt : Hid (G[k]? = some true) := by unfold Hid; rw [HGK.out, hst.out]; simp [z1]
            go_wp2_with fail
            go_quiet (fail)
            go_wp2_with fail
            have hset := ((HA.out.alloc' (.cells #[.int .i64 2, .int .i64 x.op, .int .i64 x.a, .int .i64 x.b, .int .i64 x.c, .int .i64 x.n, .int .i64 x.label, .int .i64 x.num] 35)).below (below_drewN (Below.refl _ _) nq) (Nat.le_refl _)).setLong k true
            rw [mixed_set G bs k true hGt.out (by rw [HGL.out, H.out.lbs])] at hset
            have HSE := Lib.hid hset
            clear hset
            go_roundg (l.length - (k + 1))
            case measure => omega
            case rel => exact ⟨k + 1, by omega, rfl, by go_num, by rw [diff_step hGt.out HBK.out], HSE.out, (below_drewN (HBB.out.alloc hBs _) _).setCell (p := ⟨lb, k, none⟩) HB.out.2.1 _⟩
          · have hGt : Hid (G[k]? = some true) := by unfold Hid; rw [HGK.out, hst.out]; simp [z2]
            go_wp2_with fail
            go_quiet (fail)
            go_wp2_with fail
            have hset := ((HA.out.alloc' (.cells #[.int .i64 2, .int .i64 x.op, .int .i64 x.a, .int .i64 x.b, .int .i64 x.c, .int .i64 x.n, .int .i64 x.label, .int .i64 x.num] 35)).below (below_drewN (Below.refl _ _) nq) (Nat.le_refl _)).setLong k true
            rw [mixed_set G bs k true hGt.out (by rw [HGL.out, H.out.lbs])] at hset
            have HSE := Lib.hid hset
            clear hset
            go_roundg (l.length - (k + 1))
            case measure => omega
            case rel => exact ⟨k + 1, by omega, rfl, by go_num, by rw [diff_step hGt.out HBK.out], HSE.out, (below_drewN (HBB.out.alloc hBs _) _).setCell (p := ⟨lb, k, none⟩) HB.out.2.1 _⟩
          · have HS := Lib.hid (same_step (b := false) (by rw [HGK.out, hst.out]; simp; omega) HBK.out)
            go_wp2_with fail
            go_quiet (fail)
            go_wp2_with fail
            go_roundg (l.length - (k + 1))
            case measure => omega
            case rel => exact ⟨k + 1, by omega, rfl, by go_num, by rw [HS.out.2], by rw [HS.out.1]; exact (HA.out.alloc' _).below (below_drewN (Below.refl _ _) _) (Nat.le_refl _), below_drewN (HBB.out.alloc hBs _) _⟩
      · have hq := beq_eq_false_iff_ne.2 hk2
        have HS := Lib.hid (same_step (b := b) (by rw [HGK.out]; simp [As.stretch, hk2]) HBK.out)
        go_wp2_with fail
        go_roundg (l.length - (k + 1))
        case measure => omega
        case rel => exact ⟨k + 1, by omega, rfl, by go_num, by rw [HS.out.2], by rw [HS.out.1]; exact HA.out.alloc' _, HBB.out.alloc hBs _⟩
    · obtain rfl : k = l.length := by omega
      clear hA hb
      go_wp2_with fail
      go_ret
      have e1 : G.take l.length = G := List.take_of_length_le (by rw [HGL.out]; exact Nat.le_refl _)
      have e2 : bs.take l.length = bs := List.take_of_length_le (by rw [H.out.lbs]; exact Nat.le_refl _)
      have e3 : bs.drop l.length = [] := List.drop_of_length_le (by rw [H.out.lbs]; exact Nat.le_refl _)
      have hA := HA.out
      rw [e1, e3, List.append_nil] at hA
      rw [e1, e2]
      exact ⟨rfl, hA, HBB.out⟩
end Go.Proofs.Ytbcpflogkniojaa
