/- How a datum is checked, plainly; the checker. -/
import Derived.Test.YthbnhneibpoooaaQHpCk4
import Derived.Test.YthbnhneibpoooaaQMM
set_option linter.unusedVariables false
set_option linter.unusedSimpArgs false
set_option linter.unnecessarySimpa false
namespace Go.Proofs.Ythbnhneibpoooaa
open Go.RowKit
set_option linter.unusedVariables false
set_option linter.unusedSimpArgs false
set_option linter.unnecessarySimpa false
namespace Dt
mutual
/-- How many data are seen, and what is wrong. -/
def chk : Dt → Nat → Nat → Nat × Int
  | mk k i t l, deep, seen =>
    if seen = 4096 then (seen, 22)
    else if (decide (5 ≤ k) && decide (k ≤ 7)) && decide (deep = 32) then (seen + 1, 21)
    else if formB k i t l then chks l (deep + 1) (seen + 1)
    else (seen + 1, 20)
def chks : List Dt → Nat → Nat → Nat × Int
  | [], _, seen => (seen, 0)
  | x :: l, deep, seen => if (chk x deep seen).2 = 0 then chks l deep (chk x deep seen).1 else chk x deep seen
end
theorem chks_app : ∀ (l r : List Dt) (d s : Nat), chks (l ++ r) d s = if (chks l d s).2 = 0 then chks r d (chks l d s).1 else chks l d s
  | [], r, d, s => by simp [chks]
  | x :: l, r, d, s => by
    rw [List.cons_append, chks, chks]
    by_cases h : (chk x d s).2 = 0
    · rw [if_pos h, if_pos h, chks_app l r d]
    · rw [if_neg h, if_neg h, if_neg h]
theorem chks_step {l : List Dt} {k d s sk : Nat} {x : Dt} (hx : l[k]? = some x) (h : chks (l.take k) d s = (sk, 0)) (h0 : (chk x d sk).2 = 0) : chks (l.take (k + 1)) d s = ((chk x d sk).1, 0) := by
  rw [List.take_add_one, hx, chks_app, h]
  simp [chks, h0]
theorem chks_stop {l : List Dt} {k d s sk : Nat} {x : Dt} (hx : l[k]? = some x) (h : chks (l.take k) d s = (sk, 0)) (h0 : ¬ (chk x d sk).2 = 0) : chks l d s = chk x d sk := by
  have hk : k < l.length := (List.getElem?_eq_some_iff.1 hx).1
  have e : l = l.take k ++ (x :: l.drop (k + 1)) := by
    have h1 : l[k] = x := (List.getElem?_eq_some_iff.1 hx).2
    rw [← h1, ← List.drop_eq_getElem_cons hk, List.take_append_drop]
  rw [e, chks_app, h]
  simp [chks, h0]
mutual
theorem chk_le : ∀ (x : Dt) (d s : Nat), s ≤ 4096 → s ≤ (chk x d s).1 ∧ (chk x d s).1 ≤ 4096 ∧ ((chk x d s).2 = 0 → s + x.nodes ≤ (chk x d s).1)
  | mk k i t l, d, s, hs => by
    rw [chk]
    split
    · exact ⟨by simp, by simp; omega, fun h => by simp at h⟩
    · split
      · exact ⟨by simp, by simp; omega, fun h => by simp at h⟩
      · split
        · have := chks_le l (d + 1) (s + 1) (by omega)
          refine ⟨by omega, this.2.1, fun h => ?_⟩
          have h2 := this.2.2 h
          rw [nodes]
          omega
        · exact ⟨by simp, by simp; omega, fun h => by simp at h⟩
theorem chks_le : ∀ (l : List Dt) (d s : Nat), s ≤ 4096 → s ≤ (chks l d s).1 ∧ (chks l d s).1 ≤ 4096 ∧ ((chks l d s).2 = 0 → s + nodess l ≤ (chks l d s).1)
  | [], d, s, hs => by simp [chks, nodess, hs]
  | x :: l, d, s, hs => by
    rw [chks]
    have h1 := chk_le x d s hs
    split
    · rename_i h0
      have h2 := chks_le l d (chk x d s).1 h1.2.1
      refine ⟨by omega, h2.2.1, fun h => ?_⟩
      have := h2.2.2 h
      have := h1.2.2 h0
      rw [nodess]
      omega
    · rename_i h0
      exact ⟨h1.1, h1.2.1, fun h => absurd h h0⟩
end
theorem form_items {k i : Int} {t : ByteArray} {l : List Dt} (h : formB k i t l = true) (hl : l ≠ []) : (decide (5 ≤ k) && decide (k ≤ 7)) = true := by
  rcases (by omega : k = 0 ∨ k = 1 ∨ k = 2 ∨ k = 3 ∨ k = 4 ∨ k = 5 ∨ k = 6 ∨ k = 7 ∨ (k < 0 ∨ 7 < k)) with rfl | rfl | rfl | rfl | rfl | rfl | rfl | rfl | hk
  all_goals first
    | rfl
    | (simp [formB, hl] at h)
    | skip
  have hkk : ¬ k = 0 ∧ ¬ k = 1 ∧ ¬ k = 2 ∧ ¬ k = 3 ∧ ¬ k = 4 ∧ ¬ k = 5 ∧ ¬ k = 7 ∧ ¬ k = 6 := by omega
  simp [formB, hkk] at h
/-- What the argument's own cells allow. -/
inductive Fit : Dt → Prop
  | mk (k i : Int) (t : ByteArray) (l : List Dt) (ht : t.size ≤ maxLen) (hl : l.length ≤ 9223372036854775807) (h : ∀ (j : Nat) (x : Dt), l[j]? = some x → Fit x) : Fit (.mk k i t l)
theorem Fit.of {d x : Dt} (h : Fit d) (hx : x ∈ d.list) : Fit x := by
  cases h with
  | mk k i t l ht hl h =>
    obtain ⟨j, hj⟩ := List.getElem?_of_mem hx
    exact h j x hj
end Dt
/-- The checker's count. -/
def CkAt (w : World) (cb : Nat) (seen : Nat) : Prop := w.heap[cb]? = some (.cells #[.int .i64 seen] 112 (0, 0))
def CkPost (r : Nat × Int) (cb : Nat) (w : World) (e : Ending) (w' : World) : Prop := e = .returned (.int .i64 r.2) ∧ CkAt w' cb r.1 ∧ Save cb w w'
theorem CkAt.cells {w : World} {cb seen : Nat} (H : CkAt w cb seen) : w.cell? ⟨cb, 0, none⟩ = some (.int .i64 seen) ∧ w.frozen? ⟨cb, 0, none⟩ = false ∧ cb < w.heap.size :=
  ⟨cell_of_row w cb 0 _ _ _ H, frozen_of_row w _ 0 _ _ H, (Array.getElem?_eq_some_iff.1 H).1⟩
theorem CkAt.bel {w w' : World} {cb seen N : Nat} (H : CkAt w cb seen) (hb : Below N w w') (hN : w.heap.size ≤ N) : CkAt w' cb seen := (hb.block cb (by have := H.cells.2.2; omega)).trans H
theorem CkAt.set {w : World} {cb seen seen' : Nat} (H : CkAt w cb seen) : CkAt (w.setCell ⟨cb, 0, none⟩ (.int .i64 seen')) cb seen' := heap_setCell_same _ cb 0 _ _ _ H
/-- The checker's state in its walk: the datum's box at w's end. -/
structure Ck (w wx : World) (cb seen B : Nat) (k i : Int) (t : ByteArray) (a : Option Addr) (l : List Dt) (c : Nat) : Prop where
  at' : CkAt wx cb seen
  save : Save cb w wx
  box : Cell4 w.heap.size (.int .i64 k) (.int .i64 i) (.string t) (.slice a l.length c) wx
  dat : DtAt wx (fun b => b < B) (.agg #[.int .i64 k, .int .i64 i, .string t, .slice a l.length c]) (.mk k i t l)
  size : w.heap.size < wx.heap.size
theorem Ck.bel {w wx w2 : World} {cb seen B : Nat} {k i : Int} {t : ByteArray} {a : Option Addr} {l : List Dt} {c : Nat} (H : Ck w wx cb seen B k i t a l c) (hb : Below wx.heap.size wx w2) : Ck w w2 cb seen B k i t a l c := by
  have hs := H.size
  have hz := hb.size
  exact ⟨H.at'.bel hb (Nat.le_refl _), H.save.trans (Save.of hb), H.box.below hb (by omega), H.dat.bel hb (Nat.le_refl _), by omega⟩
theorem Ck.save' {w wx w2 : World} {cb seen seen2 B : Nat} {k i : Int} {t : ByteArray} {a : Option Addr} {l : List Dt} {c : Nat} (H : Ck w wx cb seen B k i t a l c) (hlt : cb < w.heap.size) (hB : B ≤ cb) (hs : Save cb wx w2) (h2 : CkAt w2 cb seen2) : Ck w w2 cb seen2 B k i t a l c := by
  have hz := H.size
  exact ⟨h2, H.save.trans hs, H.box.save hs hz (by omega), H.dat.save hs (by omega), Nat.lt_of_lt_of_le hz hs.size⟩
theorem Ck.first {w : World} {cb seen B : Nat} {k i : Int} {t : ByteArray} {a : Option Addr} {l : List Dt} {c : Nat} (H : CkAt w cb seen) (hB : B ≤ cb) (hd : DtAt w (fun b => b < B) (.agg #[.int .i64 k, .int .i64 i, .string t, .slice a l.length c]) (.mk k i t l)) :
    Ck w ((w.setCell ⟨cb, 0, none⟩ (.int .i64 ((seen : Int) + 1))).alloc (.cells #[.int .i64 k, .int .i64 i, .string t, .slice a l.length c] 48)) cb (seen + 1) B k i t a l c := by
  have hs : (w.setCell ⟨cb, 0, none⟩ (.int .i64 ((seen : Int) + 1))).heap.size = w.heap.size := by simp [World.setCell]
  have hS : Save cb w (w.setCell ⟨cb, 0, none⟩ (.int .i64 ((seen : Int) + 1))) := (Save.of (Below.refl _ _)).set _
  have hb : Below (w.setCell ⟨cb, 0, none⟩ (.int .i64 ((seen : Int) + 1))).heap.size (w.setCell ⟨cb, 0, none⟩ (.int .i64 ((seen : Int) + 1))) ((w.setCell ⟨cb, 0, none⟩ (.int .i64 ((seen : Int) + 1))).alloc (.cells #[.int .i64 k, .int .i64 i, .string t, .slice a l.length c] 48)) := (Below.refl _ _).alloc (Nat.le_refl _) _
  refine ⟨(H.set (seen' := seen + 1)).bel hb (Nat.le_refl _), hS.trans (Save.of hb), ?_, (hd.save hS (by omega)).bel hb (Nat.le_refl _), ?_⟩
  · have := new4 (w.setCell ⟨cb, 0, none⟩ (.int .i64 ((seen : Int) + 1))) (.int .i64 k) (.int .i64 i) (.string t) (.slice a l.length c) 48
    rw [hs] at this
    exact this
  · have := hb.size
    simp
set_option maxHeartbeats 8000000 in
set_option maxRecDepth 100000 in
theorem dchk_step (B cb : Nat) (k i : Int) (t : ByteArray) (l : List Dt) (deep seen : Nat) (v : Value) (w : World) (hB : B ≤ cb) (hC : CkAt w cb seen) (hdp : deep ≤ 32) (hsn : seen ≤ 4096) (hd : DtAt w (fun b => b < B) v (.mk k i t l)) (hf : Dt.Fit (.mk k i t l))
    (IH : ∀ x ∈ l, ∀ (vx : Value) (w1 : World) (deep' seen' : Nat), deep' ≤ 32 → seen' ≤ 4096 → DtAt w1 (fun b => b < B) vx x → CkAt w1 cb seen' → Calls Try.prog 69 #[.pointer (some ⟨cb, 0, none⟩), vx, .int .i64 deep'] w1 (CkPost (Dt.chk x deep' seen') cb w1)) :
    Calls Try.prog 69 #[.pointer (some ⟨cb, 0, none⟩), v, .int .i64 deep] w (CkPost (Dt.chk (.mk k i t l) deep seen) cb w) := by
  obtain ⟨a, c, rfl, _⟩ := hd.inv
  simp only [Dt.kind_mk, Dt.int_mk, Dt.text_mk, Dt.list_mk] at hd ⊢
  obtain ⟨ht, hl⟩ : t.size ≤ maxLen ∧ l.length ≤ 9223372036854775807 := by cases hf; exact ⟨by assumption, by assumption⟩
  obtain ⟨c0, f0, hlt⟩ := hC.cells
  rw [Dt.chk]
  by_cases h0 : seen = 4096
  · subst h0
    rw [if_pos rfl]
    have HC := Lib.hid hC
    clear hd hf IH hC ht hl
    go_enter Try.func69, Try.ntmps69
    go_wp2_with fail
    go_ret
    exact ⟨rfl, HC.out.bel ((Below.refl _ _).alloc (Nat.le_refl _) _) (Nat.le_refl _), Save.of ((Below.refl _ _).alloc (Nat.le_refl _) _)⟩
  · rw [if_neg h0]
    have g1 : ((seen : Int) == 4096) = false := beq_eq_false_iff_ne.2 (by omega)
    have g2 : (seen : Int) ≤ 4096 := by omega
    have g3 : (0 : Int) ≤ seen := by omega
    have HK := Lib.hid (Ck.first hC hB hd)
    have HF : Hid (∀ w1 : World, DtAt w1 (fun b => b < B) (.agg #[.int .i64 k, .int .i64 i, .string t, .slice a l.length c]) (.mk k i t l) → Calls Try.prog 85 #[.agg #[.int .i64 k, .int .i64 i, .string t, .slice a l.length c]] w1 (FormPost (Dt.formB k i t l) w1)) := fun w1 h1 => dform_any k i t ht a l hl c w1 (h1.mono fun _ _ _ => trivial)
    have HI : Hid (∀ w1 : World, Calls Try.prog 84 #[.agg #[.int .i64 k, .int .i64 i, .string t, .slice a l.length c]] w1 fun e w' => e = .returned (.bool (decide (5 ≤ k) && decide (k ≤ 7))) ∧ Below w1.heap.size w1 w') := fun w1 => ditems_any k i t a l.length c w1
    have HIH := Lib.hid IH
    have HN : Hid (seen ≠ 4096) := h0
    have HSN := Lib.hid hsn
    unfold FormPost at HF
    clear hd hf IH hC ht hl h0 hsn
    generalize hit : (decide (5 ≤ k) && decide (k ≤ 7)) = it at *
    by_cases h1 : (it && decide (deep = 32)) = true
    · rw [if_pos h1]
      rw [Bool.and_eq_true, decide_eq_true_eq] at h1
      obtain ⟨rfl, rfl⟩ := h1
      clear hit
      go_enter Try.func69, Try.ntmps69
      go_wp2_with fail
      with_reducible refine (HI.out _).mono ?_
      rintro e w2 ⟨rfl, hb2⟩
      have HK2 := Lib.hid (HK.out.bel hb2)
      clear hb2
      go_wp2_with fail
      go_ret
      exact ⟨rfl, HK2.out.at', HK2.out.save⟩
    · rw [if_neg h1]
      have hor : it = false ∨ (it = true ∧ ((deep : Int) == 32) = false ∧ deep < 32) := by
        cases it with
        | false => exact .inl rfl
        | true =>
          have h2 : ¬ deep = 32 := by simpa using h1
          exact .inr ⟨rfl, beq_eq_false_iff_ne.2 (by omega), by omega⟩
      have HOR := Lib.hid hor
      have HIT := Lib.hid hit
      clear h1 hit hor
      cases hfb : Dt.formB k i t l with
      | false =>
        rw [hfb] at HF
        clear hfb
        rcases HOR.out with rfl | ⟨rfl, v1, _⟩
        all_goals
          go_enter Try.func69, Try.ntmps69
          go_wp2_with fail
          with_reducible refine (HI.out _).mono ?_
          rintro e w2 ⟨rfl, hb2⟩
          have HK2 := Lib.hid (HK.out.bel hb2)
          obtain ⟨q0, q1, q2, q3⟩ := HK2.out.box
          clear hb2
          go_wp2_with fail
          with_reducible refine (HF.out _ HK2.out.dat).mono ?_
          rintro e w3 ⟨rfl, hb3⟩
          have HK3 := Lib.hid (HK2.out.bel hb3)
          clear hb3
          go_wp2_with fail
          go_ret
          exact ⟨rfl, HK3.out.at', HK3.out.save⟩
      | true =>
        have HL : Hid (l ≠ [] → deep < 32) := fun hne => by
          rcases HOR.out with e | ⟨_, _, h⟩
          · have := Dt.form_items hfb hne
            rw [HIT.out, e] at this
            cases this
          · exact h
        rw [hfb] at HF
        clear hfb
        rw [if_pos rfl]
        rcases HOR.out with rfl | ⟨rfl, v1, _⟩
        all_goals
          go_enter Try.func69, Try.ntmps69
          go_wp2_with fail
          with_reducible refine (HI.out _).mono ?_
          rintro e w2 ⟨rfl, hb2⟩
          have HK2 := Lib.hid (HK.out.bel hb2)
          obtain ⟨q0, q1, q2, q3⟩ := HK2.out.box
          clear hb2
          go_wp2_with fail
          with_reducible refine (HF.out _ HK2.out.dat).mono ?_
          rintro e w3 ⟨rfl, hb3⟩
          have HK3 := Lib.hid (HK2.out.bel hb3)
          obtain ⟨p0, p1, p2, p3⟩ := HK3.out.box
          clear hb3 q0 q1 q2 q3
          go_wp2_with fail
          clear p0 p1 p2 p3
          go_loopg [34] l.length (fun gk s34 wx => ∃ (n sk : Nat), n ≤ l.length ∧ gk = l.length - n ∧ s34 = .int .i64 n ∧ Hid (Ck w wx cb sk B k i t a l c) ∧ Hid (Dt.chks (l.take n) (deep + 1) (seen + 1) = (sk, 0)))
          case atStart => exact ⟨0, _, Nat.zero_le _, rfl, rfl, HK3.out, rfl⟩
          case round =>
            obtain ⟨n, sk, hn, rfl, rfl, HKR, HT⟩ := hrel
            by_cases hlt2 : n < l.length
            · obtain ⟨x, hx⟩ : ∃ x, l[n]? = some x := ⟨_, List.getElem?_eq_getElem hlt2⟩
              have hsk := Dt.chks_le (l.take n) (deep + 1) (seen + 1) (by have := HSN.out; have := HN.out; omega)
              rw [HT.out] at hsk
              obtain ⟨hsk1, hsk2, hsk3⟩ := hsk
              have hnk : n ≤ sk := by
                have h4 := hsk3 rfl
                have h5 := Dt.nodess_len (l.take n)
                simp [Nat.min_eq_left hn] at h5
                omega
              have hdp2 : deep + 1 ≤ 32 := by have := HL.out (fun e => by rw [e] at hx; simp at hx); omega
              obtain ⟨ad, cd, hv, h0 | ⟨b1, o1, ha1, hb1, _, hat⟩⟩ := HKR.out.dat.inv
              · simp only [Dt.list_mk] at h0
                rw [h0.2.2] at hx; simp at hx
              simp only [Dt.kind_mk, Dt.int_mk, Dt.text_mk, Dt.list_mk] at hv hat
              obtain rfl : a = ad := by simpa using (by simpa using hv : a = ad ∧ c = cd).1
              subst ha1
              obtain ⟨lx, d0, d1, d2, d3, hdx⟩ := hat n x hx
              obtain ⟨ax, cx, rfl⟩ := hdx.slice
              have hg1 : (0 : Int) ≤ n := by omega
              have hg2 : (n : Int) < l.length := by omega
              have hgw : IntKind.i64.wrap ((n : Int) + 1) = n + 1 := by rw [IntKind.wrap_i64]; omega
              have hgd : IntKind.i64.wrap ((deep : Int) + 1) = deep + 1 := by rw [IntKind.wrap_i64]; omega
              have hbA := (Below.refl wr.heap.size wr).alloc (Nat.le_refl _) (.cells #[.int .i64 x.kind, .int .i64 x.int, .string x.text, .slice ax x.list.length cx] 48)
              have HKA := Lib.hid (HKR.out.bel hbA)
              have hcall := HIH.out x (List.mem_of_getElem? hx) _ _ (deep + 1) sk hdp2 hsk2 (hdx.bel hbA (Nat.le_refl _)) HKA.out.at'
              have HCALL : Hid (Calls Try.prog 69 #[.pointer (some ⟨cb, 0, none⟩), .agg #[.int .i64 x.kind, .int .i64 x.int, .string x.text, .slice ax x.list.length cx], .int .i64 ((deep : Int) + 1)] (wr.alloc (.cells #[.int .i64 x.kind, .int .i64 x.int, .string x.text, .slice ax x.list.length cx] 48)) (CkPost (Dt.chk x (deep + 1) sk) cb (wr.alloc (.cells #[.int .i64 x.kind, .int .i64 x.int, .string x.text, .slice ax x.list.length cx] 48)))) := hcall
              have HX := Lib.hid hx
              clear hat hdx hbA hcall hx hv hsk1 hsk2 hsk3
              by_cases hz : (Dt.chk x (deep + 1) sk).2 = 0
              · have HZ := Lib.hid hz
                have HT2 := Lib.hid (Dt.chks_step HX.out HT.out hz)
                generalize Dt.chk x (deep + 1) sk = rr at *
                obtain ⟨r1, r2⟩ := rr
                dsimp only at *
                subst hz
                go_wp2_with fail
                with_reducible refine (HCALL.out).mono ?_
                rintro e w5 ⟨rfl, hC5, hS5⟩
                have HK5 := Lib.hid (HKA.out.save' hlt hB hS5 hC5)
                clear hC5 hS5
                go_wp2_with fail
                go_roundg (l.length - (n + 1))
                case measure => omega
                case rel => exact ⟨n + 1, _, by omega, rfl, by go_num, HK5.out, HT2.out⟩
              · have HT2 := Lib.hid (Dt.chks_stop HX.out HT.out hz)
                generalize Dt.chk x (deep + 1) sk = rr at *
                obtain ⟨r1, r2⟩ := rr
                dsimp only at *
                have z1 : (r2 != 0) = true := by simpa using hz
                clear hz
                go_wp2_with fail
                with_reducible refine (HCALL.out).mono ?_
                rintro e w5 ⟨rfl, hC5, hS5⟩
                have HK5 := Lib.hid (HKA.out.save' hlt hB hS5 hC5)
                clear hC5 hS5
                go_wp2_with fail
                go_ret
                rw [HT2.out]
                exact ⟨rfl, HK5.out.at', HK5.out.save⟩
            · obtain rfl : l.length = n := by omega
              go_wp2_with fail
              go_ret
              have hT := HT.out
              rw [List.take_length] at hT
              rw [hT]
              exact ⟨rfl, HKR.out.at', HKR.out.save⟩
end Go.Proofs.Ythbnhneibpoooaa
/- Check; the reference's. -/
namespace Go.Proofs.Ythbnhneibpoooaa
open Go.RowKit
set_option linter.unusedVariables false
set_option linter.unusedSimpArgs false
set_option linter.unnecessarySimpa false
theorem dchk_n (B cb : Nat) (hB : B ≤ cb) : ∀ (n : Nat) (d : Dt) (v : Value) (deep seen : Nat) (w : World), d.depth ≤ n → deep ≤ 32 → seen ≤ 4096 → DtAt w (fun b => b < B) v d → Dt.Fit d → CkAt w cb seen → Calls Try.prog 69 #[.pointer (some ⟨cb, 0, none⟩), v, .int .i64 deep] w (CkPost (Dt.chk d deep seen) cb w)
  | 0, d, v, deep, seen, w, hn, _, _, _, _, _ => by
    rw [Dt.depth_list] at hn
    omega
  | n + 1, d, v, deep, seen, w, hn, h1, h2, h3, h4, h5 => by
    rw [Dt.depth_list] at hn
    obtain ⟨k, i, t, l⟩ := d
    refine dchk_step B cb k i t l deep seen v w hB h5 h1 h2 h3 h4 fun x hx vx w1 deep' seen' g1 g2 g3 g4 => dchk_n B cb hB n x vx deep' seen' w1 ?_ g1 g2 g3 (h4.of hx) g4
    have := Dt.depth_mem _ x hx
    simp only [Dt.list_mk] at hn
    omega
theorem ck_new (w : World) (o : Obj) (t : TypeId) : CkAt ((w.alloc o).alloc (.cells #[.int .i64 0] 112)) (w.heap.size + 1) 0 := heap_new (by simp)
/-- What Check tells. -/
def Dt.chkE (d : Dt) : Int := (Dt.chk d 0 0).2
theorem dcheck_any (d : Dt) (v : Value) (w : World) (hd : DtAt w (fun b => b < w.heap.size) v d) (hf : Dt.Fit d) : Calls Try.prog 50 #[v] w fun e w' => e = .returned (.int .i64 d.chkE) ∧ Below w.heap.size w w' := by
  have HC : Hid (∀ (cb : Nat) (w1 : World), w.heap.size ≤ cb → Below w.heap.size w w1 → CkAt w1 cb 0 → Calls Try.prog 69 #[.pointer (some ⟨cb, 0, none⟩), v, .int .i64 0] w1 (CkPost (Dt.chk d 0 0) cb w1)) := fun cb w1 h1 h2 h3 => dchk_n w.heap.size cb h1 d.depth d v 0 0 w1 (Nat.le_refl _) (by omega) (by omega) (hd.bel h2 (Nat.le_refl _)) hf h3
  obtain ⟨a, c, rfl, _⟩ := hd.inv
  unfold Dt.chkE
  clear hd hf
  go_enter Try.func50, Try.ntmps50
  go_wp2_with fail
  with_reducible refine (HC.out (w.heap.size + 1) _ (by omega) (((Below.refl _ _).alloc (Nat.le_refl _) _).alloc (by simp) _) (ck_new _ _ 0)).mono ?_
  rintro e w2 ⟨rfl, _, hs⟩
  have HS := Lib.hid hs
  clear hs
  go_wp2_with fail
  go_ret
  exact ⟨rfl, (((Below.refl _ _).alloc (Nat.le_refl _) _).alloc (by simp) _).trans (HS.out.below (by omega) (by simp; omega))⟩
end Go.Proofs.Ythbnhneibpoooaa
/- The reference's check. -/
namespace Go.Proofs.Ythbnhneibpoooaa
open Go.RowKit
set_option linter.unusedVariables false
set_option linter.unusedSimpArgs false
set_option linter.unnecessarySimpa false
def RkPost (r : Nat × Int) (w : World) (e : Ending) (w' : World) : Prop := e = .returned (.tuple #[.int .i64 r.1, .int .i64 r.2]) ∧ Below w.heap.size w w'
set_option maxHeartbeats 8000000 in
set_option maxRecDepth 100000 in
theorem rchk_step (k i : Int) (t : ByteArray) (l : List Dt) (deep seen : Nat) (v : Value) (w : World) (hdp : deep ≤ 32) (hsn : seen ≤ 4096) (hd : DtAt w (fun _ => True) v (.mk k i t l)) (hf : Dt.Fit (.mk k i t l))
    (IH : ∀ x ∈ l, ∀ (vx : Value) (w1 : World) (deep' seen' : Nat), deep' ≤ 32 → seen' ≤ 4096 → DtAt w1 (fun _ => True) vx x → Calls Try.prog 70 #[vx, .int .i64 deep', .int .i64 seen'] w1 (RkPost (Dt.chk x deep' seen') w1)) :
    Calls Try.prog 70 #[v, .int .i64 deep, .int .i64 seen] w (RkPost (Dt.chk (.mk k i t l) deep seen) w) := by
  obtain ⟨a, c, rfl, _⟩ := hd.inv
  simp only [Dt.kind_mk, Dt.int_mk, Dt.text_mk, Dt.list_mk] at hd ⊢
  obtain ⟨ht, hl⟩ : t.size ≤ maxLen ∧ l.length ≤ 9223372036854775807 := by cases hf; exact ⟨by assumption, by assumption⟩
  rw [Dt.chk]
  by_cases h0 : seen = 4096
  · subst h0
    rw [if_pos rfl]
    clear hd hf IH ht hl
    go_enter Try.func70, Try.ntmps70
    go_wp2_with fail
    go_ret2
    exact ⟨rfl, (Below.refl _ _).alloc (Nat.le_refl _) _⟩
  · rw [if_neg h0]
    have g1 : ((seen : Int) == 4096) = false := beq_eq_false_iff_ne.2 (by omega)
    have g2 : (seen : Int) ≤ 4096 := by omega
    have g3 : (0 : Int) ≤ seen := by omega
    have HB1 := Lib.hid ((Below.refl w.heap.size w).alloc (Nat.le_refl _) (.cells #[.int .i64 k, .int .i64 i, .string t, .slice a l.length c] 48))
    have HX1 := Lib.hid (show Cell4 w.heap.size _ _ _ _ _ from new4 w (.int .i64 k) (.int .i64 i) (.string t) (.slice a l.length c) 48)
    have HD := Lib.hid hd
    have HF : Hid (∀ w1 : World, Below w.heap.size w w1 → Calls Try.prog 87 #[.agg #[.int .i64 k, .int .i64 i, .string t, .slice a l.length c]] w1 (FormPost (Dt.formB k i t l) w1)) := fun w1 h1 => rform_any k i t ht a l hl c w1 (hd.bel h1 (Nat.le_refl _))
    have HI : Hid (∀ w1 : World, Calls Try.prog 86 #[.agg #[.int .i64 k, .int .i64 i, .string t, .slice a l.length c]] w1 fun e w' => e = .returned (.bool (decide (5 ≤ k) && decide (k ≤ 7))) ∧ Below w1.heap.size w1 w') := fun w1 => ritems_any k i t a l.length c w1
    have HIH := Lib.hid IH
    have HN : Hid (seen ≠ 4096) := h0
    have HSN := Lib.hid hsn
    unfold FormPost at HF
    clear hd hf IH ht hl h0 hsn
    generalize hit : (decide (5 ≤ k) && decide (k ≤ 7)) = it at *
    by_cases h1 : (it && decide (deep = 32)) = true
    · rw [if_pos h1]
      rw [Bool.and_eq_true, decide_eq_true_eq] at h1
      obtain ⟨rfl, rfl⟩ := h1
      clear hit
      go_enter Try.func70, Try.ntmps70
      go_wp2_with fail
      with_reducible refine (HI.out _).mono ?_
      rintro e w2 ⟨rfl, hb2⟩
      have HB2 := Lib.hid (HB1.out.trans (hb2.mono HB1.out.size))
      clear hb2
      go_wp2_with fail
      go_ret2
      exact ⟨rfl, HB2.out⟩
    · rw [if_neg h1]
      have hor : it = false ∨ (it = true ∧ ((deep : Int) == 32) = false ∧ deep < 32) := by
        cases it with
        | false => exact .inl rfl
        | true =>
          have h2 : ¬ deep = 32 := by simpa using h1
          exact .inr ⟨rfl, beq_eq_false_iff_ne.2 (by omega), by omega⟩
      have HOR := Lib.hid hor
      have HIT := Lib.hid hit
      clear h1 hit hor
      cases hfb : Dt.formB k i t l with
      | false =>
        rw [hfb] at HF
        clear hfb
        rcases HOR.out with rfl | ⟨rfl, v1, _⟩
        all_goals
          go_enter Try.func70, Try.ntmps70
          go_wp2_with fail
          with_reducible refine (HI.out _).mono ?_
          rintro e w2 ⟨rfl, hb2⟩
          have HB2 := Lib.hid (HB1.out.trans (hb2.mono HB1.out.size))
          obtain ⟨q0, q1, q2, q3⟩ := HX1.out.below hb2 (by simp)
          clear hb2
          go_wp2_with fail
          with_reducible refine (HF.out _ HB2.out).mono ?_
          rintro e w3 ⟨rfl, hb3⟩
          have HB3 := Lib.hid (HB2.out.trans (hb3.mono HB2.out.size))
          clear hb3
          go_wp2_with fail
          go_ret2
          exact ⟨rfl, HB3.out⟩
      | true =>
        have HL : Hid (l ≠ [] → deep < 32) := fun hne => by
          rcases HOR.out with e | ⟨_, _, h⟩
          · have := Dt.form_items hfb hne
            rw [HIT.out, e] at this
            cases this
          · exact h
        rw [hfb] at HF
        clear hfb
        rw [if_pos rfl]
        rcases HOR.out with rfl | ⟨rfl, v1, _⟩
        all_goals
          go_enter Try.func70, Try.ntmps70
          go_wp2_with fail
          with_reducible refine (HI.out _).mono ?_
          rintro e w2 ⟨rfl, hb2⟩
          have HB2 := Lib.hid (HB1.out.trans (hb2.mono HB1.out.size))
          have HX2 := Lib.hid (HX1.out.below hb2 (by simp))
          obtain ⟨q0, q1, q2, q3⟩ := HX2.out
          have hs2 : w.heap.size < w2.heap.size := by have := hb2.size; simp at this; omega
          clear hb2
          go_wp2_with fail
          with_reducible refine (HF.out _ HB2.out).mono ?_
          rintro e w3 ⟨rfl, hb3⟩
          have HB3 := Lib.hid (HB2.out.trans (hb3.mono HB2.out.size))
          have HX3 := Lib.hid (HX2.out.below hb3 hs2)
          have hs3 : w.heap.size < w3.heap.size := Nat.lt_of_lt_of_le hs2 hb3.size
          clear hb3 q0 q1 q2 q3
          go_wp2_with fail
          go_loopg [2, 8, 9] l.length (fun gk s2 s8 s9 wx => ∃ (n sk : Nat), n ≤ l.length ∧ gk = l.length - n ∧ s9 = .int .i64 n ∧ s8 = .int .i64 0 ∧ s2 = .int .i64 sk ∧ Hid (Below w.heap.size w wx ∧ Cell4 w.heap.size (.int .i64 k) (.int .i64 i) (.string t) (.slice a l.length c) wx ∧ w.heap.size < wx.heap.size) ∧ Hid (Dt.chks (l.take n) (deep + 1) (seen + 1) = (sk, 0)))
          case atStart => exact ⟨0, seen + 1, Nat.zero_le _, rfl, rfl, rfl, by go_num, ⟨HB3.out, HX3.out, hs3⟩, rfl⟩
          case round =>
            obtain ⟨n, sk, hn, rfl, rfl, rfl, rfl, HKR, HT⟩ := hrel
            obtain ⟨q0, q1, q2, q3⟩ := HKR.out.2.1
            by_cases hlt2 : n < l.length
            · obtain ⟨x, hx⟩ : ∃ x, l[n]? = some x := ⟨_, List.getElem?_eq_getElem hlt2⟩
              have hsk := Dt.chks_le (l.take n) (deep + 1) (seen + 1) (by have := HSN.out; have := HN.out; omega)
              rw [HT.out] at hsk
              obtain ⟨hsk1, hsk2, hsk3⟩ := hsk
              have hnk : n ≤ sk := by
                have h4 := hsk3 rfl
                have h5 := Dt.nodess_len (l.take n)
                simp [Nat.min_eq_left hn] at h5
                omega
              have hdp2 : deep + 1 ≤ 32 := by have := HL.out (fun e => by rw [e] at hx; simp at hx); omega
              obtain ⟨ad, cd, hv, h0 | ⟨b1, o1, ha1, hb1, _, hat⟩⟩ := (HD.out.bel HKR.out.1 (Nat.le_refl _)).inv
              · simp only [Dt.list_mk] at h0
                rw [h0.2.2] at hx; simp at hx
              simp only [Dt.kind_mk, Dt.int_mk, Dt.text_mk, Dt.list_mk] at hv hat
              obtain rfl : a = ad := by simpa using (by simpa using hv : a = ad ∧ c = cd).1
              subst ha1
              obtain ⟨lx, d0, d1, d2, d3, hdx⟩ := hat n x hx
              obtain ⟨ax, cx, rfl⟩ := hdx.slice
              have hg1 : (0 : Int) ≤ n := by omega
              have hg2 : (n : Int) < l.length := by omega
              have hgw : IntKind.i64.wrap ((n : Int) + 1) = n + 1 := by rw [IntKind.wrap_i64]; omega
              have hgd : IntKind.i64.wrap ((deep : Int) + 1) = deep + 1 := by rw [IntKind.wrap_i64]; omega
              have hcall := HIH.out x (List.mem_of_getElem? hx) _ _ (deep + 1) sk hdp2 hsk2 hdx
              have HCALL : Hid (Calls Try.prog 70 #[.agg #[.int .i64 x.kind, .int .i64 x.int, .string x.text, .slice ax x.list.length cx], .int .i64 ((deep : Int) + 1), .int .i64 sk] wr (RkPost (Dt.chk x (deep + 1) sk) wr)) := hcall
              have HX := Lib.hid hx
              clear hat hdx hcall hx hv hsk1 hsk2 hsk3
              by_cases hz : (Dt.chk x (deep + 1) sk).2 = 0
              · have HZ := Lib.hid hz
                have HT2 := Lib.hid (Dt.chks_step HX.out HT.out hz)
                generalize Dt.chk x (deep + 1) sk = rr at *
                obtain ⟨r1, r2⟩ := rr
                dsimp only at *
                subst hz
                go_wp2_with fail
                with_reducible refine (HCALL.out).mono ?_
                rintro e w5 ⟨rfl, hb5⟩
                have HK5 : Hid (Below w.heap.size w w5 ∧ Cell4 w.heap.size (.int .i64 k) (.int .i64 i) (.string t) (.slice (some ⟨b1, o1, none⟩) l.length c) w5 ∧ w.heap.size < w5.heap.size) := ⟨HKR.out.1.trans (hb5.mono HKR.out.1.size), HKR.out.2.1.below hb5 HKR.out.2.2, Nat.lt_of_lt_of_le HKR.out.2.2 hb5.size⟩
                clear hb5
                go_wp2_with fail
                go_roundg (l.length - (n + 1))
                case measure => omega
                case rel => exact ⟨n + 1, _, by omega, rfl, by go_num, rfl, rfl, HK5.out, HT2.out⟩
              · have HT2 := Lib.hid (Dt.chks_stop HX.out HT.out hz)
                generalize Dt.chk x (deep + 1) sk = rr at *
                obtain ⟨r1, r2⟩ := rr
                dsimp only at *
                have z1 : (r2 != 0) = true := by simpa using hz
                clear hz
                go_wp2_with fail
                with_reducible refine (HCALL.out).mono ?_
                rintro e w5 ⟨rfl, hb5⟩
                have HB5 := Lib.hid (HKR.out.1.trans (hb5.mono HKR.out.1.size))
                clear hb5
                go_wp2_with fail
                go_ret2
                rw [HT2.out]
                exact ⟨rfl, HB5.out⟩
            · obtain rfl : l.length = n := by omega
              go_wp2_with fail
              go_ret2
              have hT := HT.out
              rw [List.take_length] at hT
              rw [hT]
              exact ⟨rfl, HKR.out.1⟩
theorem rchk_n : ∀ (n : Nat) (d : Dt) (v : Value) (deep seen : Nat) (w : World), d.depth ≤ n → deep ≤ 32 → seen ≤ 4096 → DtAt w (fun _ => True) v d → Dt.Fit d → Calls Try.prog 70 #[v, .int .i64 deep, .int .i64 seen] w (RkPost (Dt.chk d deep seen) w)
  | 0, d, v, deep, seen, w, hn, _, _, _, _ => by
    rw [Dt.depth_list] at hn
    omega
  | n + 1, d, v, deep, seen, w, hn, h1, h2, h3, h4 => by
    rw [Dt.depth_list] at hn
    obtain ⟨k, i, t, l⟩ := d
    refine rchk_step k i t l deep seen v w h1 h2 h3 h4 fun x hx vx w1 deep' seen' g1 g2 g3 => rchk_n n x vx deep' seen' w1 ?_ g1 g2 g3 (h4.of hx)
    have := Dt.depth_mem _ x hx
    simp only [Dt.list_mk] at hn
    omega
theorem rcheck_any (d : Dt) (v : Value) (w : World) (hd : DtAt w (fun _ => True) v d) (hf : Dt.Fit d) : Calls Try.prog 51 #[v] w fun e w' => e = .returned (.int .i64 d.chkE) ∧ Below w.heap.size w w' := by
  have HC : Hid (∀ (w1 : World), Below w.heap.size w w1 → Calls Try.prog 70 #[v, .int .i64 0, .int .i64 0] w1 (RkPost (Dt.chk d 0 0) w1)) := fun w1 h2 => rchk_n d.depth d v 0 0 w1 (Nat.le_refl _) (by omega) (by omega) (hd.bel h2 (Nat.le_refl _)) hf
  obtain ⟨a, c, rfl, _⟩ := hd.inv
  unfold Dt.chkE
  clear hd hf
  go_enter Try.func51, Try.ntmps51
  go_wp2_with fail
  with_reducible refine (HC.out _ ((Below.refl _ _).alloc (Nat.le_refl _) _)).mono ?_
  rintro e w2 ⟨rfl, hb⟩
  have HB := Lib.hid hb
  clear hb
  go_wp2_with fail
  go_ret
  exact ⟨rfl, ((Below.refl _ _).alloc (Nat.le_refl _) _).trans (HB.out.mono (by simp))⟩
end Go.Proofs.Ythbnhneibpoooaa
/- The values of constants. -/
namespace Go.Proofs.Ythbnhneibpoooaa
open Go.RowKit
set_option linter.unusedVariables false
set_option linter.unusedSimpArgs false
set_option linter.unnecessarySimpa false
/-- The value of a datum, if it has one. -/
def constF (d : Dt) : Hp.V × Bool :=
  if d.chkE ≠ 0 then (Hp.none, false) else if d.kind = 0 then (⟨0, d.int, ⟨#[]⟩⟩, true) else if d.kind = 1 then (⟨1, d.int, ⟨#[]⟩⟩, true) else if d.kind = 2 then (⟨2, d.int, ⟨#[]⟩⟩, true)
  else if d.kind = 4 then (⟨3, 0, d.text⟩, true) else if d.kind = 5 ∧ d.list = [] then (⟨4, 0, ⟨#[]⟩⟩, true) else (Hp.none, false)
def CnPost (r : Hp.V × Bool) (w : World) (e : Ending) (w' : World) : Prop := e = .returned (.tuple #[.agg #[.int .i64 r.1.kind, .int .i64 r.1.int, .string r.1.text], .bool r.2]) ∧ Below w.heap.size w w'
/-- The own rows of Const behind its call. -/
theorem cn_rows {w w3 : World} {a b c d : Value} (hb : Below ((w.alloc (.cells #[a, b, c, d] 48)).alloc (.cells #[.int .i64 0, .int .i64 0, .string ⟨#[]⟩] 27)).heap.size ((w.alloc (.cells #[a, b, c, d] 48)).alloc (.cells #[.int .i64 0, .int .i64 0, .string ⟨#[]⟩] 27)) w3) :
    Below w.heap.size w w3 ∧ Cell4 w.heap.size a b c d w3 ∧ w3.heap[w.heap.size + 1]? = some (.cells #[.int .i64 0, .int .i64 0, .string ⟨#[]⟩] 27 (0, 0)) := by
  refine ⟨(((Below.refl _ _).alloc (Nat.le_refl _) _).alloc (by simp) _).trans (hb.mono (by simp; omega)), ?_, (hb.block _ (by simp)).trans (heap_new (by simp))⟩
  have h := new4 w a b c d 48
  exact (Cell4.same (w := w.alloc (.cells #[a, b, c, d] 48)) h (heap_alloc_old _ _ (by simp))).below hb (by simp; omega)
set_option maxHeartbeats 8000000 in
theorem dconst_any (d : Dt) (v : Value) (w : World) (hd : DtAt w (fun _ => True) v d) (hf : Dt.Fit d) : Calls Try.prog 23 #[v] w (CnPost (constF d) w) := by
  have HC : Hid (∀ (w1 : World), Below w.heap.size w w1 → Calls Try.prog 50 #[v] w1 fun e w' => e = .returned (.int .i64 d.chkE) ∧ Below w1.heap.size w1 w') := fun w1 hb => dcheck_any d v w1 ((hd.bel hb (Nat.le_refl _)).mono fun _ _ h => h) hf
  obtain ⟨a, c, rfl, hnil⟩ := hd.inv
  have hnil2 : d.list = [] ∨ True := .inr trivial
  clear hd hf hnil hnil2
  unfold CnPost
  obtain ⟨k, i, t, l⟩ := d
  simp only [Dt.kind_mk, Dt.int_mk, Dt.text_mk, Dt.list_mk] at *
  by_cases hE : (Dt.mk k i t l).chkE = 0
  · rw [hE] at HC
    rcases (by omega : k = 0 ∨ k = 1 ∨ k = 2 ∨ k = 4 ∨ k = 5 ∨ (¬ k = 0 ∧ ¬ k = 1 ∧ ¬ k = 2 ∧ ¬ k = 4 ∧ ¬ k = 5)) with rfl | rfl | rfl | rfl | rfl | hk
    · skip
      have HR : Hid (constF (.mk 0 i t l) = (⟨0, i, ⟨#[]⟩⟩, true)) := Lib.hid (by simp [constF, Dt.kind_mk, Dt.int_mk, Dt.text_mk, Dt.list_mk, hE])
      rw [HR.out]
      clear hE
      go_enter Try.func23, Try.ntmps23
      go_wp2_with fail
      with_reducible refine (HC.out _ ((((Below.refl _ _).alloc (Nat.le_refl _) _).alloc (by simp) _))).mono ?_
      rintro e w3 ⟨rfl, hb3⟩
      obtain ⟨hB3, ⟨q0, q1, q2, q3⟩, hz3⟩ := cn_rows hb3
      obtain ⟨z0, z1, z2, y0, y1, y2⟩ := Zer3.of hz3
      have HB3 := Lib.hid hB3
      have HZ3 := Lib.hid hz3
      clear hb3 hB3 hz3
      go_wp2_with fail
      refine bodyPost_ret (res2 rfl _ _ (w.heap.size + 1) 27 _ (0, 0) rfl (three_set _ _ _ _ _ _ _ _ _ HZ3.out) valD valSize) rfl ?_
      exact ⟨rfl, ((HB3.out.setCell (p := ⟨w.heap.size + 1, 0, none⟩) (by simp) _).setCell (p := ⟨w.heap.size + 1, 1, none⟩) (by simp) _).setCell (p := ⟨w.heap.size + 1, 2, none⟩) (by simp) _⟩
    · skip
      have HR : Hid (constF (.mk 1 i t l) = (⟨1, i, ⟨#[]⟩⟩, true)) := Lib.hid (by simp [constF, Dt.kind_mk, Dt.int_mk, Dt.text_mk, Dt.list_mk, hE])
      rw [HR.out]
      clear hE
      go_enter Try.func23, Try.ntmps23
      go_wp2_with fail
      with_reducible refine (HC.out _ ((((Below.refl _ _).alloc (Nat.le_refl _) _).alloc (by simp) _))).mono ?_
      rintro e w3 ⟨rfl, hb3⟩
      obtain ⟨hB3, ⟨q0, q1, q2, q3⟩, hz3⟩ := cn_rows hb3
      obtain ⟨z0, z1, z2, y0, y1, y2⟩ := Zer3.of hz3
      have HB3 := Lib.hid hB3
      have HZ3 := Lib.hid hz3
      clear hb3 hB3 hz3
      go_wp2_with fail
      refine bodyPost_ret (res2 rfl _ _ (w.heap.size + 1) 27 _ (0, 0) rfl (three_set _ _ _ _ _ _ _ _ _ HZ3.out) valD valSize) rfl ?_
      exact ⟨rfl, ((HB3.out.setCell (p := ⟨w.heap.size + 1, 0, none⟩) (by simp) _).setCell (p := ⟨w.heap.size + 1, 1, none⟩) (by simp) _).setCell (p := ⟨w.heap.size + 1, 2, none⟩) (by simp) _⟩
    · skip
      have HR : Hid (constF (.mk 2 i t l) = (⟨2, i, ⟨#[]⟩⟩, true)) := Lib.hid (by simp [constF, Dt.kind_mk, Dt.int_mk, Dt.text_mk, Dt.list_mk, hE])
      rw [HR.out]
      clear hE
      go_enter Try.func23, Try.ntmps23
      go_wp2_with fail
      with_reducible refine (HC.out _ ((((Below.refl _ _).alloc (Nat.le_refl _) _).alloc (by simp) _))).mono ?_
      rintro e w3 ⟨rfl, hb3⟩
      obtain ⟨hB3, ⟨q0, q1, q2, q3⟩, hz3⟩ := cn_rows hb3
      obtain ⟨z0, z1, z2, y0, y1, y2⟩ := Zer3.of hz3
      have HB3 := Lib.hid hB3
      have HZ3 := Lib.hid hz3
      clear hb3 hB3 hz3
      go_wp2_with fail
      refine bodyPost_ret (res2 rfl _ _ (w.heap.size + 1) 27 _ (0, 0) rfl (three_set _ _ _ _ _ _ _ _ _ HZ3.out) valD valSize) rfl ?_
      exact ⟨rfl, ((HB3.out.setCell (p := ⟨w.heap.size + 1, 0, none⟩) (by simp) _).setCell (p := ⟨w.heap.size + 1, 1, none⟩) (by simp) _).setCell (p := ⟨w.heap.size + 1, 2, none⟩) (by simp) _⟩
    · skip
      have HR : Hid (constF (.mk 4 i t l) = (⟨3, 0, t⟩, true)) := Lib.hid (by simp [constF, Dt.kind_mk, Dt.int_mk, Dt.text_mk, Dt.list_mk, hE])
      rw [HR.out]
      clear hE
      go_enter Try.func23, Try.ntmps23
      go_wp2_with fail
      with_reducible refine (HC.out _ ((((Below.refl _ _).alloc (Nat.le_refl _) _).alloc (by simp) _))).mono ?_
      rintro e w3 ⟨rfl, hb3⟩
      obtain ⟨hB3, ⟨q0, q1, q2, q3⟩, hz3⟩ := cn_rows hb3
      obtain ⟨z0, z1, z2, y0, y1, y2⟩ := Zer3.of hz3
      have HB3 := Lib.hid hB3
      have HZ3 := Lib.hid hz3
      clear hb3 hB3 hz3
      go_wp2_with fail
      refine bodyPost_ret (res2 rfl _ _ (w.heap.size + 1) 27 _ (0, 0) rfl (three_set _ _ _ _ _ _ _ _ _ HZ3.out) valD valSize) rfl ?_
      exact ⟨rfl, ((HB3.out.setCell (p := ⟨w.heap.size + 1, 0, none⟩) (by simp) _).setCell (p := ⟨w.heap.size + 1, 1, none⟩) (by simp) _).setCell (p := ⟨w.heap.size + 1, 2, none⟩) (by simp) _⟩
    · by_cases hl : l = []
      · subst hl
        simp only [List.length_nil] at HC ⊢
        have HR : Hid (constF (.mk 5 i t []) = (⟨4, 0, ⟨#[]⟩⟩, true)) := Lib.hid (by simp [constF, Dt.kind_mk, Dt.int_mk, Dt.text_mk, Dt.list_mk, hE])
        rw [HR.out]
        clear hE
        go_enter Try.func23, Try.ntmps23
        go_wp2_with fail
        with_reducible refine (HC.out _ ((((Below.refl _ _).alloc (Nat.le_refl _) _).alloc (by simp) _))).mono ?_
        rintro e w3 ⟨rfl, hb3⟩
        obtain ⟨hB3, ⟨q0, q1, q2, q3⟩, hz3⟩ := cn_rows hb3
        obtain ⟨z0, z1, z2, y0, y1, y2⟩ := Zer3.of hz3
        have HB3 := Lib.hid hB3
        have HZ3 := Lib.hid hz3
        clear hb3 hB3 hz3
        go_wp2_with fail
        refine bodyPost_ret (res2 rfl _ _ (w.heap.size + 1) 27 _ (0, 0) rfl (three_set _ _ _ _ _ _ _ _ _ HZ3.out) valD valSize) rfl ?_
        exact ⟨rfl, ((HB3.out.setCell (p := ⟨w.heap.size + 1, 0, none⟩) (by simp) _).setCell (p := ⟨w.heap.size + 1, 1, none⟩) (by simp) _).setCell (p := ⟨w.heap.size + 1, 2, none⟩) (by simp) _⟩
      · obtain ⟨l1, l2, l3⟩ := list_facts hl
        have l4 : (l.length == 0) = false := beq_eq_false_iff_ne.2 l2
        have l5 : ((l.length : Int) == 0) = false := beq_eq_false_iff_ne.2 (by omega)
        have HR : Hid (constF (.mk 5 i t l) = (⟨0, 0, ⟨#[]⟩⟩, false)) := Lib.hid (by simp [constF, Dt.kind_mk, Dt.int_mk, Dt.text_mk, Dt.list_mk, hE, hl, Hp.none])
        rw [HR.out]
        clear hE l3 hl
        go_enter Try.func23, Try.ntmps23
        go_wp2_with fail
        with_reducible refine (HC.out _ ((((Below.refl _ _).alloc (Nat.le_refl _) _).alloc (by simp) _))).mono ?_
        rintro e w3 ⟨rfl, hb3⟩
        obtain ⟨hB3, ⟨q0, q1, q2, q3⟩, hz3⟩ := cn_rows hb3
        obtain ⟨z0, z1, z2, y0, y1, y2⟩ := Zer3.of hz3
        have HB3 := Lib.hid hB3
        have HZ3 := Lib.hid hz3
        clear hb3 hB3 hz3
        go_wp2_with fail
        refine bodyPost_ret (res2 rfl _ _ (w.heap.size + 1) 27 _ (0, 0) rfl (three_set _ _ _ _ _ _ _ _ _ HZ3.out) valD valSize) rfl ?_
        exact ⟨rfl, ((HB3.out.setCell (p := ⟨w.heap.size + 1, 0, none⟩) (by simp) _).setCell (p := ⟨w.heap.size + 1, 1, none⟩) (by simp) _).setCell (p := ⟨w.heap.size + 1, 2, none⟩) (by simp) _⟩
    · obtain ⟨k0, k1, k2, k4, k5⟩ := hk
      have j0 : (k == 0) = false := beq_eq_false_iff_ne.2 k0
      have j1 : (k == 1) = false := beq_eq_false_iff_ne.2 k1
      have j2 : (k == 2) = false := beq_eq_false_iff_ne.2 k2
      have j4 : (k == 4) = false := beq_eq_false_iff_ne.2 k4
      have j5 : (k == 5) = false := beq_eq_false_iff_ne.2 k5
      have HR : Hid (constF (.mk k i t l) = (⟨0, 0, ⟨#[]⟩⟩, false)) := Lib.hid (by simp [constF, Dt.kind_mk, Dt.int_mk, Dt.text_mk, Dt.list_mk, hE, k0, k1, k2, k4, k5, Hp.none])
      rw [HR.out]
      clear hE k0 k1 k2 k4 k5
      go_enter Try.func23, Try.ntmps23
      go_wp2_with fail
      with_reducible refine (HC.out _ ((((Below.refl _ _).alloc (Nat.le_refl _) _).alloc (by simp) _))).mono ?_
      rintro e w3 ⟨rfl, hb3⟩
      obtain ⟨hB3, ⟨q0, q1, q2, q3⟩, hz3⟩ := cn_rows hb3
      obtain ⟨z0, z1, z2, y0, y1, y2⟩ := Zer3.of hz3
      have HB3 := Lib.hid hB3
      have HZ3 := Lib.hid hz3
      clear hb3 hB3 hz3
      go_wp2_with fail
      refine bodyPost_ret (res2 rfl _ _ (w.heap.size + 1) 27 _ (0, 0) rfl (three_set _ _ _ _ _ _ _ _ _ HZ3.out) valD valSize) rfl ?_
      exact ⟨rfl, ((HB3.out.setCell (p := ⟨w.heap.size + 1, 0, none⟩) (by simp) _).setCell (p := ⟨w.heap.size + 1, 1, none⟩) (by simp) _).setCell (p := ⟨w.heap.size + 1, 2, none⟩) (by simp) _⟩
  · have hE2 : ((Dt.mk k i t l).chkE != 0) = true := by simpa using hE
    have HR : Hid (constF (.mk k i t l) = (⟨0, 0, ⟨#[]⟩⟩, false)) := Lib.hid (by simp [constF, Dt.kind_mk, Dt.int_mk, Dt.text_mk, Dt.list_mk, hE, Hp.none])
    rw [HR.out]
    generalize (Dt.mk k i t l).chkE = E at *
    clear HR hE
    go_enter Try.func23, Try.ntmps23
    go_wp2_with fail
    with_reducible refine (HC.out _ ((((Below.refl _ _).alloc (Nat.le_refl _) _).alloc (by simp) _))).mono ?_
    rintro e w3 ⟨rfl, hb3⟩
    obtain ⟨hB3, ⟨q0, q1, q2, q3⟩, hz3⟩ := cn_rows hb3
    obtain ⟨z0, z1, z2, y0, y1, y2⟩ := Zer3.of hz3
    have HB3 := Lib.hid hB3
    have HZ3 := Lib.hid hz3
    clear hb3 hB3 hz3
    go_wp2_with fail
    refine bodyPost_ret (res2 rfl _ _ (w.heap.size + 1) 27 _ (0, 0) rfl (three_set _ _ _ _ _ _ _ _ _ HZ3.out) valD valSize) rfl ?_
    exact ⟨rfl, ((HB3.out.setCell (p := ⟨w.heap.size + 1, 0, none⟩) (by simp) _).setCell (p := ⟨w.heap.size + 1, 1, none⟩) (by simp) _).setCell (p := ⟨w.heap.size + 1, 2, none⟩) (by simp) _⟩
set_option maxHeartbeats 8000000 in
theorem rconst_any (d : Dt) (v : Value) (w : World) (hd : DtAt w (fun _ => True) v d) (hf : Dt.Fit d) : Calls Try.prog 24 #[v] w (CnPost (constF d) w) := by
  have HC : Hid (∀ (w1 : World), Below w.heap.size w w1 → Calls Try.prog 51 #[v] w1 fun e w' => e = .returned (.int .i64 d.chkE) ∧ Below w1.heap.size w1 w') := fun w1 hb => rcheck_any d v w1 (hd.bel hb (Nat.le_refl _)) hf
  obtain ⟨a, c, rfl, hnil⟩ := hd.inv
  have hnil2 : d.list = [] ∨ True := .inr trivial
  clear hd hf hnil hnil2
  unfold CnPost
  obtain ⟨k, i, t, l⟩ := d
  simp only [Dt.kind_mk, Dt.int_mk, Dt.text_mk, Dt.list_mk] at *
  by_cases hE : (Dt.mk k i t l).chkE = 0
  · rw [hE] at HC
    rcases (by omega : k = 0 ∨ k = 1 ∨ k = 2 ∨ k = 4 ∨ k = 5 ∨ (¬ k = 0 ∧ ¬ k = 1 ∧ ¬ k = 2 ∧ ¬ k = 4 ∧ ¬ k = 5)) with rfl | rfl | rfl | rfl | rfl | hk
    · skip
      have HR : Hid (constF (.mk 0 i t l) = (⟨0, i, ⟨#[]⟩⟩, true)) := Lib.hid (by simp [constF, Dt.kind_mk, Dt.int_mk, Dt.text_mk, Dt.list_mk, hE])
      rw [HR.out]
      clear hE
      go_enter Try.func24, Try.ntmps24
      go_wp2_with fail
      with_reducible refine (HC.out _ ((((Below.refl _ _).alloc (Nat.le_refl _) _).alloc (by simp) _))).mono ?_
      rintro e w3 ⟨rfl, hb3⟩
      obtain ⟨hB3, ⟨q0, q1, q2, q3⟩, hz3⟩ := cn_rows hb3
      obtain ⟨z0, z1, z2, y0, y1, y2⟩ := Zer3.of hz3
      have HB3 := Lib.hid hB3
      have HZ3 := Lib.hid hz3
      clear hb3 hB3 hz3
      go_wp2_with fail
      refine bodyPost_ret (res2 rfl _ _ (w.heap.size + 1) 27 _ (0, 0) rfl (three_set _ _ _ _ _ _ _ _ _ HZ3.out) valD valSize) rfl ?_
      exact ⟨rfl, ((HB3.out.setCell (p := ⟨w.heap.size + 1, 0, none⟩) (by simp) _).setCell (p := ⟨w.heap.size + 1, 1, none⟩) (by simp) _).setCell (p := ⟨w.heap.size + 1, 2, none⟩) (by simp) _⟩
    · skip
      have HR : Hid (constF (.mk 1 i t l) = (⟨1, i, ⟨#[]⟩⟩, true)) := Lib.hid (by simp [constF, Dt.kind_mk, Dt.int_mk, Dt.text_mk, Dt.list_mk, hE])
      rw [HR.out]
      clear hE
      go_enter Try.func24, Try.ntmps24
      go_wp2_with fail
      with_reducible refine (HC.out _ ((((Below.refl _ _).alloc (Nat.le_refl _) _).alloc (by simp) _))).mono ?_
      rintro e w3 ⟨rfl, hb3⟩
      obtain ⟨hB3, ⟨q0, q1, q2, q3⟩, hz3⟩ := cn_rows hb3
      obtain ⟨z0, z1, z2, y0, y1, y2⟩ := Zer3.of hz3
      have HB3 := Lib.hid hB3
      have HZ3 := Lib.hid hz3
      clear hb3 hB3 hz3
      go_wp2_with fail
      refine bodyPost_ret (res2 rfl _ _ (w.heap.size + 1) 27 _ (0, 0) rfl (three_set _ _ _ _ _ _ _ _ _ HZ3.out) valD valSize) rfl ?_
      exact ⟨rfl, ((HB3.out.setCell (p := ⟨w.heap.size + 1, 0, none⟩) (by simp) _).setCell (p := ⟨w.heap.size + 1, 1, none⟩) (by simp) _).setCell (p := ⟨w.heap.size + 1, 2, none⟩) (by simp) _⟩
    · skip
      have HR : Hid (constF (.mk 2 i t l) = (⟨2, i, ⟨#[]⟩⟩, true)) := Lib.hid (by simp [constF, Dt.kind_mk, Dt.int_mk, Dt.text_mk, Dt.list_mk, hE])
      rw [HR.out]
      clear hE
      go_enter Try.func24, Try.ntmps24
      go_wp2_with fail
      with_reducible refine (HC.out _ ((((Below.refl _ _).alloc (Nat.le_refl _) _).alloc (by simp) _))).mono ?_
      rintro e w3 ⟨rfl, hb3⟩
      obtain ⟨hB3, ⟨q0, q1, q2, q3⟩, hz3⟩ := cn_rows hb3
      obtain ⟨z0, z1, z2, y0, y1, y2⟩ := Zer3.of hz3
      have HB3 := Lib.hid hB3
      have HZ3 := Lib.hid hz3
      clear hb3 hB3 hz3
      go_wp2_with fail
      refine bodyPost_ret (res2 rfl _ _ (w.heap.size + 1) 27 _ (0, 0) rfl (three_set _ _ _ _ _ _ _ _ _ HZ3.out) valD valSize) rfl ?_
      exact ⟨rfl, ((HB3.out.setCell (p := ⟨w.heap.size + 1, 0, none⟩) (by simp) _).setCell (p := ⟨w.heap.size + 1, 1, none⟩) (by simp) _).setCell (p := ⟨w.heap.size + 1, 2, none⟩) (by simp) _⟩
    · skip
      have HR : Hid (constF (.mk 4 i t l) = (⟨3, 0, t⟩, true)) := Lib.hid (by simp [constF, Dt.kind_mk, Dt.int_mk, Dt.text_mk, Dt.list_mk, hE])
      rw [HR.out]
      clear hE
      go_enter Try.func24, Try.ntmps24
      go_wp2_with fail
      with_reducible refine (HC.out _ ((((Below.refl _ _).alloc (Nat.le_refl _) _).alloc (by simp) _))).mono ?_
      rintro e w3 ⟨rfl, hb3⟩
      obtain ⟨hB3, ⟨q0, q1, q2, q3⟩, hz3⟩ := cn_rows hb3
      obtain ⟨z0, z1, z2, y0, y1, y2⟩ := Zer3.of hz3
      have HB3 := Lib.hid hB3
      have HZ3 := Lib.hid hz3
      clear hb3 hB3 hz3
      go_wp2_with fail
      refine bodyPost_ret (res2 rfl _ _ (w.heap.size + 1) 27 _ (0, 0) rfl (three_set _ _ _ _ _ _ _ _ _ HZ3.out) valD valSize) rfl ?_
      exact ⟨rfl, ((HB3.out.setCell (p := ⟨w.heap.size + 1, 0, none⟩) (by simp) _).setCell (p := ⟨w.heap.size + 1, 1, none⟩) (by simp) _).setCell (p := ⟨w.heap.size + 1, 2, none⟩) (by simp) _⟩
    · by_cases hl : l = []
      · subst hl
        simp only [List.length_nil] at HC ⊢
        have HR : Hid (constF (.mk 5 i t []) = (⟨4, 0, ⟨#[]⟩⟩, true)) := Lib.hid (by simp [constF, Dt.kind_mk, Dt.int_mk, Dt.text_mk, Dt.list_mk, hE])
        rw [HR.out]
        clear hE
        go_enter Try.func24, Try.ntmps24
        go_wp2_with fail
        with_reducible refine (HC.out _ ((((Below.refl _ _).alloc (Nat.le_refl _) _).alloc (by simp) _))).mono ?_
        rintro e w3 ⟨rfl, hb3⟩
        obtain ⟨hB3, ⟨q0, q1, q2, q3⟩, hz3⟩ := cn_rows hb3
        obtain ⟨z0, z1, z2, y0, y1, y2⟩ := Zer3.of hz3
        have HB3 := Lib.hid hB3
        have HZ3 := Lib.hid hz3
        clear hb3 hB3 hz3
        go_wp2_with fail
        refine bodyPost_ret (res2 rfl _ _ (w.heap.size + 1) 27 _ (0, 0) rfl (three_set _ _ _ _ _ _ _ _ _ HZ3.out) valD valSize) rfl ?_
        exact ⟨rfl, ((HB3.out.setCell (p := ⟨w.heap.size + 1, 0, none⟩) (by simp) _).setCell (p := ⟨w.heap.size + 1, 1, none⟩) (by simp) _).setCell (p := ⟨w.heap.size + 1, 2, none⟩) (by simp) _⟩
      · obtain ⟨l1, l2, l3⟩ := list_facts hl
        have l4 : (l.length == 0) = false := beq_eq_false_iff_ne.2 l2
        have l5 : ((l.length : Int) == 0) = false := beq_eq_false_iff_ne.2 (by omega)
        have HR : Hid (constF (.mk 5 i t l) = (⟨0, 0, ⟨#[]⟩⟩, false)) := Lib.hid (by simp [constF, Dt.kind_mk, Dt.int_mk, Dt.text_mk, Dt.list_mk, hE, hl, Hp.none])
        rw [HR.out]
        clear hE l3 hl
        go_enter Try.func24, Try.ntmps24
        go_wp2_with fail
        with_reducible refine (HC.out _ ((((Below.refl _ _).alloc (Nat.le_refl _) _).alloc (by simp) _))).mono ?_
        rintro e w3 ⟨rfl, hb3⟩
        obtain ⟨hB3, ⟨q0, q1, q2, q3⟩, hz3⟩ := cn_rows hb3
        obtain ⟨z0, z1, z2, y0, y1, y2⟩ := Zer3.of hz3
        have HB3 := Lib.hid hB3
        have HZ3 := Lib.hid hz3
        clear hb3 hB3 hz3
        go_wp2_with fail
        refine bodyPost_ret (res2 rfl _ _ (w.heap.size + 1) 27 _ (0, 0) rfl (three_set _ _ _ _ _ _ _ _ _ HZ3.out) valD valSize) rfl ?_
        exact ⟨rfl, ((HB3.out.setCell (p := ⟨w.heap.size + 1, 0, none⟩) (by simp) _).setCell (p := ⟨w.heap.size + 1, 1, none⟩) (by simp) _).setCell (p := ⟨w.heap.size + 1, 2, none⟩) (by simp) _⟩
    · obtain ⟨k0, k1, k2, k4, k5⟩ := hk
      have j0 : (k == 0) = false := beq_eq_false_iff_ne.2 k0
      have j1 : (k == 1) = false := beq_eq_false_iff_ne.2 k1
      have j2 : (k == 2) = false := beq_eq_false_iff_ne.2 k2
      have j4 : (k == 4) = false := beq_eq_false_iff_ne.2 k4
      have j5 : (k == 5) = false := beq_eq_false_iff_ne.2 k5
      have HR : Hid (constF (.mk k i t l) = (⟨0, 0, ⟨#[]⟩⟩, false)) := Lib.hid (by simp [constF, Dt.kind_mk, Dt.int_mk, Dt.text_mk, Dt.list_mk, hE, k0, k1, k2, k4, k5, Hp.none])
      rw [HR.out]
      clear hE k0 k1 k2 k4 k5
      go_enter Try.func24, Try.ntmps24
      go_wp2_with fail
      with_reducible refine (HC.out _ ((((Below.refl _ _).alloc (Nat.le_refl _) _).alloc (by simp) _))).mono ?_
      rintro e w3 ⟨rfl, hb3⟩
      obtain ⟨hB3, ⟨q0, q1, q2, q3⟩, hz3⟩ := cn_rows hb3
      obtain ⟨z0, z1, z2, y0, y1, y2⟩ := Zer3.of hz3
      have HB3 := Lib.hid hB3
      have HZ3 := Lib.hid hz3
      clear hb3 hB3 hz3
      go_wp2_with fail
      refine bodyPost_ret (res2 rfl _ _ (w.heap.size + 1) 27 _ (0, 0) rfl (three_set _ _ _ _ _ _ _ _ _ HZ3.out) valD valSize) rfl ?_
      exact ⟨rfl, ((HB3.out.setCell (p := ⟨w.heap.size + 1, 0, none⟩) (by simp) _).setCell (p := ⟨w.heap.size + 1, 1, none⟩) (by simp) _).setCell (p := ⟨w.heap.size + 1, 2, none⟩) (by simp) _⟩
  · have hE2 : ((Dt.mk k i t l).chkE != 0) = true := by simpa using hE
    have HR : Hid (constF (.mk k i t l) = (⟨0, 0, ⟨#[]⟩⟩, false)) := Lib.hid (by simp [constF, Dt.kind_mk, Dt.int_mk, Dt.text_mk, Dt.list_mk, hE, Hp.none])
    rw [HR.out]
    generalize (Dt.mk k i t l).chkE = E at *
    clear HR hE
    go_enter Try.func24, Try.ntmps24
    go_wp2_with fail
    with_reducible refine (HC.out _ ((((Below.refl _ _).alloc (Nat.le_refl _) _).alloc (by simp) _))).mono ?_
    rintro e w3 ⟨rfl, hb3⟩
    obtain ⟨hB3, ⟨q0, q1, q2, q3⟩, hz3⟩ := cn_rows hb3
    obtain ⟨z0, z1, z2, y0, y1, y2⟩ := Zer3.of hz3
    have HB3 := Lib.hid hB3
    have HZ3 := Lib.hid hz3
    clear hb3 hB3 hz3
    go_wp2_with fail
    refine bodyPost_ret (res2 rfl _ _ (w.heap.size + 1) 27 _ (0, 0) rfl (three_set _ _ _ _ _ _ _ _ _ HZ3.out) valD valSize) rfl ?_
    exact ⟨rfl, ((HB3.out.setCell (p := ⟨w.heap.size + 1, 0, none⟩) (by simp) _).setCell (p := ⟨w.heap.size + 1, 1, none⟩) (by simp) _).setCell (p := ⟨w.heap.size + 1, 2, none⟩) (by simp) _⟩
end Go.Proofs.Ythbnhneibpoooaa
/- HeapedConsts, walked. -/
namespace Go.Proofs.Ythbnhneibpoooaa
open Go.RowKit
set_option linter.unusedVariables false
set_option linter.unusedSimpArgs false
set_option linter.unnecessarySimpa false
theorem chkE_form {d : Dt} (h : d.chkE = 0) : Dt.formB d.kind d.int d.text d.list = true ∧ d.nodes ≤ 4096 := by
  obtain ⟨k, i, t, l⟩ := d
  have h2 := Dt.chk_le (.mk k i t l) 0 0 (by omega)
  unfold Dt.chkE at h
  refine ⟨?_, by have := h2.2.2 h; omega⟩
  rw [Dt.chk] at h
  simp only [Dt.kind_mk, Dt.int_mk, Dt.text_mk, Dt.list_mk]
  cases hf : Dt.formB k i t l with
  | true => rfl
  | false =>
    rw [hf] at h
    simp at h
    try (split at h <;> simp at h)
theorem constF_mk (k i : Int) (t : ByteArray) (l : List Dt) : constF (.mk k i t l) = if (Dt.mk k i t l).chkE ≠ 0 then (Hp.none, false) else if k = 0 then (⟨0, i, ⟨#[]⟩⟩, true) else if k = 1 then (⟨1, i, ⟨#[]⟩⟩, true) else if k = 2 then (⟨2, i, ⟨#[]⟩⟩, true)
  else if k = 4 then (⟨3, 0, t⟩, true) else if k = 5 ∧ l = [] then (⟨4, 0, ⟨#[]⟩⟩, true) else (Hp.none, false) := rfl
/-- What a constant's value shows is the datum. -/
theorem const_told {d : Dt} {v : Hp.V} (h : constF d = (v, true)) : (∀ n, Hp.may n v = true) ∧ (∀ T, Hp.tellT T v = some d) ∧ d.nodes ≤ 4096 := by
  obtain ⟨k, i, t, l⟩ := d
  rw [constF_mk] at h
  by_cases hE : (Dt.mk k i t l).chkE = 0
  · obtain ⟨hf, hn⟩ := chkE_form hE
    rw [if_neg (by simpa using hE)] at h
    simp only [Dt.kind_mk, Dt.int_mk, Dt.text_mk, Dt.list_mk] at hf
    have key : ∀ (v : Hp.V), v.kind ≠ 8 → (∀ n, Hp.may n v = true) → Hp.leafD v = .mk k i t l → (∀ n, Hp.may n v = true) ∧ (∀ T, Hp.tellT T v = some (.mk k i t l)) ∧ (Dt.mk k i t l).nodes ≤ 4096 := fun v h8 hm hl => by
      refine ⟨hm, fun T => ?_, hn⟩
      rw [Hp.tellT, if_pos (hm _), Hp.tellF, if_neg (by omega), if_neg h8, hl]
      rfl
    by_cases h0 : k = 0
    · subst h0
      simp [Dt.formB] at hf
      rw [if_pos rfl] at h
      obtain rfl := (Prod.mk.inj h).1
      obtain ⟨⟨rfl, rfl⟩, hi⟩ := hf
      refine key _ (by simp) (fun n => by simp [Hp.may]; exact hi) rfl
    · rw [if_neg h0] at h
      by_cases h1 : k = 1
      · subst h1
        simp [Dt.formB] at hf
        rw [if_pos rfl] at h
        obtain rfl := (Prod.mk.inj h).1
        obtain ⟨⟨rfl, rfl⟩, hi⟩ := hf
        refine key _ (by simp) (fun n => by simp [Hp.may]; exact hi) rfl
      · rw [if_neg h1] at h
        by_cases h2 : k = 2
        · subst h2
          simp [Dt.formB] at hf
          rw [if_pos rfl] at h
          obtain rfl := (Prod.mk.inj h).1
          obtain ⟨⟨rfl, rfl⟩, hi⟩ := hf
          refine key _ (by simp) (fun n => by simp [Hp.may]; exact hi) rfl
        · rw [if_neg h2] at h
          by_cases h4 : k = 4
          · subst h4
            simp [Dt.formB] at hf
            rw [if_pos rfl] at h
            obtain rfl := (Prod.mk.inj h).1
            obtain ⟨⟨rfl, rfl⟩, hi⟩ := hf
            refine key _ (by simp) (fun n => by simp [Hp.may]; exact hi) rfl
          · rw [if_neg h4] at h
            by_cases h5 : k = 5 ∧ l = []
            · obtain ⟨rfl, rfl⟩ := h5
              simp [Dt.formB] at hf
              rw [if_pos ⟨rfl, rfl⟩] at h
              obtain rfl := (Prod.mk.inj h).1
              obtain ⟨rfl, rfl⟩ := hf
              refine key _ (by simp) (fun n => by simp [Hp.may]) rfl
            · rw [if_neg h5] at h
              simp at h
  · rw [if_pos hE] at h
    simp at h
theorem wf_nil : Hp.WfT [] := ⟨by simp, by simp, by simp, by simp, by simp⟩
set_option maxHeartbeats 8000000 in
set_option maxRecDepth 100000 in
theorem consts_walk (d : Dt) (v : Value) (w : World) (hd : DtAt w (fun _ => True) v d) (hf : Dt.Fit d) :
    Calls Try.prog 7 #[v] w fun e w' => e = .returned (.bool true) ∧ Below w.heap.size w w' := by
  have HC1 : Hid (∀ (w1 : World), Below w.heap.size w w1 → Calls Try.prog 23 #[v] w1 (CnPost (constF d) w1)) := fun w1 hb => dconst_any d v w1 (hd.bel hb (Nat.le_refl _)) hf
  have HC2 : Hid (∀ (w1 : World), Below w.heap.size w w1 → Calls Try.prog 24 #[v] w1 (CnPost (constF d) w1)) := fun w1 hb => rconst_any d v w1 (hd.bel hb (Nat.le_refl _)) hf
  have HD := Lib.hid hd
  obtain ⟨a, c, rfl, _⟩ := hd.inv
  clear hd hf
  obtain ⟨r, hr⟩ : ∃ r, constF d = r := ⟨_, rfl⟩
  rw [hr] at HC1 HC2
  obtain ⟨r, ok⟩ := r
  have HR := Lib.hid hr
  clear hr
  unfold CnPost at HC1 HC2
  dsimp only at HC1 HC2
  have hbA := (Below.refl w.heap.size w).alloc (Nat.le_refl _) (.cells #[.int .i64 d.kind, .int .i64 d.int, .string d.text, .slice a d.list.length c] 48)
  have H1 := Lib.hid (Lw.init (w0 := w) hbA)
  have HX1 : Hid (Cell4 w.heap.size (.int .i64 d.kind) (.int .i64 d.int) (.string d.text) (.slice a d.list.length c) ((w.alloc (.cells #[.int .i64 d.kind, .int .i64 d.int, .string d.text, .slice a d.list.length c] 48)).alloc (.cells #[.slice none 0 0] 65))) := by
    have h := new4 w (.int .i64 d.kind) (.int .i64 d.int) (.string d.text) (.slice a d.list.length c) 48
    exact Cell4.same (w := w.alloc (.cells #[.int .i64 d.kind, .int .i64 d.int, .string d.text, .slice a d.list.length c] 48)) h (heap_alloc_old _ _ (by simp))
  clear hbA
  go_enter Try.func7, Try.ntmps7
  go_wp2_with fail
  with_reducible refine (new_any _).mono ?_
  rintro e w1 ⟨rfl, rfl⟩
  obtain ⟨q0, q1, q2, q3⟩ := HX1.out
  rw [show (w.alloc (.cells #[.int .i64 d.kind, .int .i64 d.int, .string d.text, .slice a d.list.length c] 48)).heap.size = w.heap.size + 1 by simp] at *
  go_wp2_with fail
  with_reducible refine (HC1.out _ H1.out.below).mono ?_
  rintro e w2 ⟨rfl, hb2⟩
  have hs2 : w.heap.size + 1 < w2.heap.size := by have := hb2.size; simp at this; omega
  have hs2' : w.heap.size < w2.heap.size := by omega
  have HX2 := Lib.hid (HX1.out.below hb2 (by simp; omega))
  have H2 := Lib.hid ((H1.out.bel hb2).new (.cells #[.int .i64 r.kind, .int .i64 r.int, .string r.text] 27) rfl)
  obtain ⟨p0, p1, p2, p3⟩ := HX2.out
  clear hb2 q0 q1 q2 q3
  go_wp2_with fail
  with_reducible refine (HC2.out _ H2.out.below).mono ?_
  rintro e w3 ⟨rfl, hb3⟩
  have hs3 : w2.heap.size < w3.heap.size := by have := hb3.size; simp at this; omega
  have hs3' : w.heap.size < w3.heap.size := by omega
  have HX3 : Hid (Cell4 w.heap.size (.int .i64 d.kind) (.int .i64 d.int) (.string d.text) (.slice a d.list.length c) w3) := (HX2.out.same (w' := w2.alloc (.cells #[.int .i64 r.kind, .int .i64 r.int, .string r.text] 27)) (heap_alloc_old _ _ hs2')).below hb3 (by simp; omega)
  have H3 := Lib.hid ((H2.out.bel hb3).new (.cells #[.int .i64 r.kind, .int .i64 r.int, .string r.text] 27) rfl)
  clear hb3 p0 p1 p2 p3
  go_wp2_with fail
  with_reducible refine (fixed_any _).mono ?_
  rintro e w4 ⟨rfl, hb4⟩
  have hs4 : w3.heap.size < w4.heap.size := by have := hb4.size; simp at this; omega
  have hs4' : w.heap.size < w4.heap.size := by omega
  have HX4 : Hid (Cell4 w.heap.size (.int .i64 d.kind) (.int .i64 d.int) (.string d.text) (.slice a d.list.length c) w4) := (HX3.out.same (w' := w3.alloc (.cells #[.int .i64 r.kind, .int .i64 r.int, .string r.text] 27)) (heap_alloc_old _ _ hs3')).below hb4 (by simp; omega)
  have H4 := Lib.hid (H3.out.bel hb4)
  have a0 := H4.out.cells (List.mem_cons_self ..) 0
  have a1 := H4.out.cells (List.mem_cons_self ..) 1
  have a2 := H4.out.cells (List.mem_cons_self ..) 2
  have b0 := H4.out.cells (List.mem_cons_of_mem _ (List.mem_cons_self ..)) 0
  have b1 := H4.out.cells (List.mem_cons_of_mem _ (List.mem_cons_self ..)) 1
  have b2 := H4.out.cells (List.mem_cons_of_mem _ (List.mem_cons_self ..)) 2
  simp only [List.getElem?_toArray, List.getElem?_cons_zero, List.getElem?_cons_succ] at a0 a1 a2 b0 b1 b2
  clear hb4
  cases ok with
  | false =>
    go_wp2_with fail
    go_ret
    exact ⟨rfl, H4.out.below⟩
  | true =>
    obtain ⟨hm, ht, hn⟩ := const_told HR.out
    have HM := Lib.hid hm
    have HT := Lib.hid (ht [])
    have HN := Lib.hid hn
    clear hm ht hn
    go_wp2_with fail
    with_reducible refine (lw_tell H4.out wf_nil r (hp_text (HM.out 0))).mono ?_
    rintro e w5 ⟨d5, a5, c5, rfl, hd5, hr5, hL5, hz5, hb5⟩
    rw [HT.out] at hr5
    simp only [Option.getD_some] at hr5
    subst hr5
    rw [HT.out]
    have HX5 := Lib.hid (HX4.out.below hb5 hs4')
    have hs5' : w.heap.size < w5.heap.size := Nat.lt_of_lt_of_le hs4' hz5
    obtain ⟨p0, p1, p2, p3⟩ := HX5.out
    have hbB := (Below.refl w5.heap.size w5).alloc (Nat.le_refl _) (.cells #[.int .i64 d5.kind, .int .i64 d5.int, .string d5.text, .slice a5 d5.list.length c5] 48)
    have HSM := same_any d5 d5 _ _ _ (Dt.short_of (by have := HN.out; omega)) (Dt.short_of (by have := HN.out; omega)) ((hd5.mono fun _ _ _ => trivial).bel hbB (Nat.le_refl _)) ((HD.out.bel hL5.below (Nat.le_refl _)).bel hbB (Nat.le_refl _))
    rw [Dt.same_refl] at HSM
    have HSM := Lib.hid HSM
    have HB5 := Lib.hid (hL5.bel hbB).below
    clear hd5 hL5 hz5 hb5 hbB
    simp only [Option.isSome_some]
    go_wp2_with fail
    with_reducible refine (HSM.out).mono ?_
    rintro e w6 ⟨rfl, hb6⟩
    have HB6 := Lib.hid (HB5.out.trans (hb6.mono HB5.out.size))
    clear hb6
    go_wp2_with fail
    go_ret
    exact ⟨rfl, HB6.out⟩
end Go.Proofs.Ythbnhneibpoooaa
