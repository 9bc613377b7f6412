/- The heap's act: =, eq?. -/
import Derived.Test.YthbnhneibpoooaaQMG
import Derived.Laws.Strings
import Derived.Test.YthbnhneibpoooaaQML
import Derived.Test.YthbnhneibpoooaaQMQ
set_option linter.unusedVariables false
set_option linter.unusedSimpArgs false
set_option linter.unnecessarySimpa false
namespace Go.Proofs.Ythbnhneibpoooaa
open Go.RowKit
set_option linter.unusedVariables false
set_option linter.unusedSimpArgs false
set_option maxHeartbeats 16000000 in
set_option maxRecDepth 100000 in
theorem act_eq (h : Nat) (p : ByteArray) (hp : p = ⟨#[61]⟩ ∨ p = ⟨#[101, 113, 63]⟩) (x y : Hp.V) (av : Value) (w : World) (hv : VSl w av [x, y]) :
    Calls Try.prog 31 #[.pointer (some ⟨h, 0, none⟩), .string p, av] w fun e w' => e = .returned (.tuple #[(Hp.truth (decide (x = y))).val, .int .i64 0]) ∧ Below w.heap.size w w' := by
  obtain ⟨a, c, rfl⟩ := hv.len
  obtain ⟨b, off, rfl, hbl, hat⟩ := hv.at (by simp)
  obtain ⟨d0, d1, d2⟩ := hat 0 x rfl
  obtain ⟨f0, f1, f2⟩ := hat 1 y rfl
  rw [Nat.zero_mul, Nat.add_zero] at d0 d1 d2
  rw [Nat.one_mul] at f0 f1 f2
  clear hat hv
  have HW1 : Hid (Below w.heap.size w ((w.alloc (.cells #[.int .i64 0, .int .i64 0, .string ⟨#[]⟩] 27)).alloc (.cells #[.int .i64 5, .int .i64 0, .string ⟨#[]⟩] 27)).drew) := (((Below.refl _ _).alloc (Nat.le_refl _) _).alloc (by simp) _).drew
  have HZ : Hid (((w.alloc (.cells #[.int .i64 0, .int .i64 0, .string ⟨#[]⟩] 27)).alloc (.cells #[.int .i64 5, .int .i64 0, .string ⟨#[]⟩] 27)).drew.heap[w.heap.size]? = some (.cells #[.int .i64 0, .int .i64 0, .string ⟨#[]⟩] 27 (0, 0))) := (heap_alloc_old _ _ (by simp)).trans (heap_alloc_new w _)
  obtain ⟨xk, xi, xt⟩ := x
  obtain ⟨yk, yi, yt⟩ := y
  dsimp only at *
  have HS : Hid (ArgC b off [⟨xk, xi, xt⟩, ⟨yk, yi, yt⟩] w) := ⟨d0, d1, d2, f0, f1, f2⟩
  have hcase : (xk = yk ∧ xi = yi ∧ xt = yt) ∨ (xk == yk) = false ∨ (xk = yk ∧ (xi == yi) = false) ∨ (xk = yk ∧ xi = yi ∧ (xt.toList == yt.toList) = false) := by
    by_cases h1 : xk = yk
    · by_cases h2 : xi = yi
      · by_cases h3 : xt = yt
        · exact .inl ⟨h1, h2, h3⟩
        · refine .inr (.inr (.inr ⟨h1, h2, ?_⟩))
          rw [beq_eq_false_iff_ne]
          intro e
          rw [ByteArray.toList_eq, ByteArray.toList_eq] at e
          exact h3 (by cases xt; cases yt; simp at e; rw [e])
      · exact .inr (.inr (.inl ⟨h1, beq_eq_false_iff_ne.2 h2⟩))
    · exact .inr (.inl (beq_eq_false_iff_ne.2 h1))
  have HQ : Hid (∀ (b : Bool), (decide ((⟨xk, xi, xt⟩ : Hp.V) = ⟨yk, yi, yt⟩) = b) → True) := fun _ _ => trivial
  generalize hdec : decide ((⟨xk, xi, xt⟩ : Hp.V) = ⟨yk, yi, yt⟩) = dd
  have HDEC : Hid ((xk = yk ∧ xi = yi ∧ xt = yt) ↔ dd = true) := by
    show _ ↔ _
    rw [← hdec, decide_eq_true_eq]
    simp
  clear hdec HQ
  rcases hcase with ⟨rfl, rfl, rfl⟩ | v1 | ⟨rfl, v1⟩ | ⟨rfl, rfl, v1⟩
  · obtain rfl : dd = true := HDEC.out.1 ⟨rfl, rfl, rfl⟩
    have HTR : Hid (∀ w1, Calls Try.prog 29 #[.bool true] w1 fun e w' => e = .returned (.agg #[.int .i64 0, .int .i64 1, .string ⟨#[]⟩]) ∧ Below w1.heap.size w1 w') := fun w1 => truth_any true w1
    rcases hp with rfl | rfl
    all_goals
      go_enter Try.func31, Try.ntmps31
      go_wp2_with fail
      go_region_held3 (fun w' => w'.cell? ⟨b, off, none⟩ = some (.int .i64 xk) ∧ w'.cell? ⟨b, off + 1, none⟩ = some (.int .i64 xi) ∧ w'.cell? ⟨b, off + 2, none⟩ = some (.string xt) ∧ w'.cell? ⟨b, off + 3, none⟩ = some (.int .i64 xk) ∧ w'.cell? ⟨b, off + 3 + 1, none⟩ = some (.int .i64 xi) ∧ w'.cell? ⟨b, off + 3 + 2, none⟩ = some (.string xt))
        (first | exact HS.out.below HW1.out hbl | exact HS2.out | exact HS2.out.stored3 (by omega) _ _ _ | fail)
        (first
          | (go_at_call 29; (with_reducible refine (HTR.out _).mono ?_); rintro e w3 ⟨rfl, hb3⟩; have HW3 := Lib.hid (HW1.out.trans (hb3.mono HW1.out.size)); have HS2 := Lib.hid (HS.out.below HW3.out hbl); have hz3 := (hb3.block w.heap.size (by show _ < (World.alloc _ _).heap.size; simp; omega)).trans HZ.out; have q0 := cell_of_row w3 _ 0 _ _ _ hz3; have q1 := cell_of_row w3 _ 1 _ _ _ hz3; have q2 := cell_of_row w3 _ 2 _ _ _ hz3; simp only [List.getElem?_toArray, List.getElem?_cons_zero, List.getElem?_cons_succ] at q0 q1 q2; have k0 := frozen_of_row w3 _ 0 _ _ hz3; have k1 := frozen_of_row w3 _ 1 _ _ hz3; have k2 := frozen_of_row w3 _ 2 _ _ hz3; have HZ3 := Lib.hid hz3; clear hb3 hz3)
          | fail)
      go_wp2_with fail
      refine bodyPost_ret (res2 rfl _ _ w.heap.size 27 _ (0, 0) rfl (three_set _ _ _ _ _ _ _ _ _ HZ3.out) valD valSize) rfl ?_
      exact ⟨by rfl, ((HW3.out.setCell (p := ⟨w.heap.size, 0, none⟩) (Nat.le_refl _) _).setCell (p := ⟨w.heap.size, 1, none⟩) (Nat.le_refl _) _).setCell (p := ⟨w.heap.size, 2, none⟩) (Nat.le_refl _) _⟩
  · have HF : Hid (dd = false) := by
      show dd = false
      rw [← Bool.not_eq_true, ← HDEC.out]
      rintro ⟨h1, _, _⟩
      subst h1
      simp at v1
    obtain rfl := HF.out
    have HTR : Hid (∀ w1, Calls Try.prog 29 #[.bool false] w1 fun e w' => e = .returned (.agg #[.int .i64 0, .int .i64 0, .string ⟨#[]⟩]) ∧ Below w1.heap.size w1 w') := fun w1 => truth_any false w1
    rcases hp with rfl | rfl
    all_goals
      go_enter Try.func31, Try.ntmps31
      go_wp2_with fail
      go_region_held3 (fun w' => w'.cell? ⟨b, off, none⟩ = some (.int .i64 xk) ∧ w'.cell? ⟨b, off + 1, none⟩ = some (.int .i64 xi) ∧ w'.cell? ⟨b, off + 2, none⟩ = some (.string xt) ∧ w'.cell? ⟨b, off + 3, none⟩ = some (.int .i64 yk) ∧ w'.cell? ⟨b, off + 3 + 1, none⟩ = some (.int .i64 yi) ∧ w'.cell? ⟨b, off + 3 + 2, none⟩ = some (.string yt))
        (first | exact HS.out.below HW1.out hbl | exact HS2.out | exact HS2.out.stored3 (by omega) _ _ _ | fail)
        (first
          | (go_at_call 29; (with_reducible refine (HTR.out _).mono ?_); rintro e w3 ⟨rfl, hb3⟩; have HW3 := Lib.hid (HW1.out.trans (hb3.mono HW1.out.size)); have HS2 := Lib.hid (HS.out.below HW3.out hbl); have hz3 := (hb3.block w.heap.size (by show _ < (World.alloc _ _).heap.size; simp; omega)).trans HZ.out; have q0 := cell_of_row w3 _ 0 _ _ _ hz3; have q1 := cell_of_row w3 _ 1 _ _ _ hz3; have q2 := cell_of_row w3 _ 2 _ _ _ hz3; simp only [List.getElem?_toArray, List.getElem?_cons_zero, List.getElem?_cons_succ] at q0 q1 q2; have k0 := frozen_of_row w3 _ 0 _ _ hz3; have k1 := frozen_of_row w3 _ 1 _ _ hz3; have k2 := frozen_of_row w3 _ 2 _ _ hz3; have HZ3 := Lib.hid hz3; clear hb3 hz3)
          | fail)
      go_wp2_with fail
      refine bodyPost_ret (res2 rfl _ _ w.heap.size 27 _ (0, 0) rfl (three_set _ _ _ _ _ _ _ _ _ HZ3.out) valD valSize) rfl ?_
      exact ⟨by rfl, ((HW3.out.setCell (p := ⟨w.heap.size, 0, none⟩) (Nat.le_refl _) _).setCell (p := ⟨w.heap.size, 1, none⟩) (Nat.le_refl _) _).setCell (p := ⟨w.heap.size, 2, none⟩) (Nat.le_refl _) _⟩
  · have HF : Hid (dd = false) := by
      show dd = false
      rw [← Bool.not_eq_true, ← HDEC.out]
      rintro ⟨_, h1, _⟩
      subst h1
      simp at v1
    obtain rfl := HF.out
    have HTR : Hid (∀ w1, Calls Try.prog 29 #[.bool false] w1 fun e w' => e = .returned (.agg #[.int .i64 0, .int .i64 0, .string ⟨#[]⟩]) ∧ Below w1.heap.size w1 w') := fun w1 => truth_any false w1
    rcases hp with rfl | rfl
    all_goals
      go_enter Try.func31, Try.ntmps31
      go_wp2_with fail
      go_region_held3 (fun w' => w'.cell? ⟨b, off, none⟩ = some (.int .i64 xk) ∧ w'.cell? ⟨b, off + 1, none⟩ = some (.int .i64 xi) ∧ w'.cell? ⟨b, off + 2, none⟩ = some (.string xt) ∧ w'.cell? ⟨b, off + 3, none⟩ = some (.int .i64 xk) ∧ w'.cell? ⟨b, off + 3 + 1, none⟩ = some (.int .i64 yi) ∧ w'.cell? ⟨b, off + 3 + 2, none⟩ = some (.string yt))
        (first | exact HS.out.below HW1.out hbl | exact HS2.out | exact HS2.out.stored3 (by omega) _ _ _ | fail)
        (first
          | (go_at_call 29; (with_reducible refine (HTR.out _).mono ?_); rintro e w3 ⟨rfl, hb3⟩; have HW3 := Lib.hid (HW1.out.trans (hb3.mono HW1.out.size)); have HS2 := Lib.hid (HS.out.below HW3.out hbl); have hz3 := (hb3.block w.heap.size (by show _ < (World.alloc _ _).heap.size; simp; omega)).trans HZ.out; have q0 := cell_of_row w3 _ 0 _ _ _ hz3; have q1 := cell_of_row w3 _ 1 _ _ _ hz3; have q2 := cell_of_row w3 _ 2 _ _ _ hz3; simp only [List.getElem?_toArray, List.getElem?_cons_zero, List.getElem?_cons_succ] at q0 q1 q2; have k0 := frozen_of_row w3 _ 0 _ _ hz3; have k1 := frozen_of_row w3 _ 1 _ _ hz3; have k2 := frozen_of_row w3 _ 2 _ _ hz3; have HZ3 := Lib.hid hz3; clear hb3 hz3)
          | fail)
      go_wp2_with fail
      refine bodyPost_ret (res2 rfl _ _ w.heap.size 27 _ (0, 0) rfl (three_set _ _ _ _ _ _ _ _ _ HZ3.out) valD valSize) rfl ?_
      exact ⟨by rfl, ((HW3.out.setCell (p := ⟨w.heap.size, 0, none⟩) (Nat.le_refl _) _).setCell (p := ⟨w.heap.size, 1, none⟩) (Nat.le_refl _) _).setCell (p := ⟨w.heap.size, 2, none⟩) (Nat.le_refl _) _⟩
  · have HF : Hid (dd = false) := by
      show dd = false
      rw [← Bool.not_eq_true, ← HDEC.out]
      rintro ⟨_, _, h1⟩
      subst h1
      simp at v1
    obtain rfl := HF.out
    have HTR : Hid (∀ w1, Calls Try.prog 29 #[.bool false] w1 fun e w' => e = .returned (.agg #[.int .i64 0, .int .i64 0, .string ⟨#[]⟩]) ∧ Below w1.heap.size w1 w') := fun w1 => truth_any false w1
    rcases hp with rfl | rfl
    all_goals
      go_enter Try.func31, Try.ntmps31
      go_wp2_with fail
      go_region_held3 (fun w' => w'.cell? ⟨b, off, none⟩ = some (.int .i64 xk) ∧ w'.cell? ⟨b, off + 1, none⟩ = some (.int .i64 xi) ∧ w'.cell? ⟨b, off + 2, none⟩ = some (.string xt) ∧ w'.cell? ⟨b, off + 3, none⟩ = some (.int .i64 xk) ∧ w'.cell? ⟨b, off + 3 + 1, none⟩ = some (.int .i64 xi) ∧ w'.cell? ⟨b, off + 3 + 2, none⟩ = some (.string yt))
        (first | exact HS.out.below HW1.out hbl | exact HS2.out | exact HS2.out.stored3 (by omega) _ _ _ | fail)
        (first
          | (go_at_call 29; (with_reducible refine (HTR.out _).mono ?_); rintro e w3 ⟨rfl, hb3⟩; have HW3 := Lib.hid (HW1.out.trans (hb3.mono HW1.out.size)); have HS2 := Lib.hid (HS.out.below HW3.out hbl); have hz3 := (hb3.block w.heap.size (by show _ < (World.alloc _ _).heap.size; simp; omega)).trans HZ.out; have q0 := cell_of_row w3 _ 0 _ _ _ hz3; have q1 := cell_of_row w3 _ 1 _ _ _ hz3; have q2 := cell_of_row w3 _ 2 _ _ _ hz3; simp only [List.getElem?_toArray, List.getElem?_cons_zero, List.getElem?_cons_succ] at q0 q1 q2; have k0 := frozen_of_row w3 _ 0 _ _ hz3; have k1 := frozen_of_row w3 _ 1 _ _ hz3; have k2 := frozen_of_row w3 _ 2 _ _ hz3; have HZ3 := Lib.hid hz3; clear hb3 hz3)
          | fail)
      go_wp2_with fail
      refine bodyPost_ret (res2 rfl _ _ w.heap.size 27 _ (0, 0) rfl (three_set _ _ _ _ _ _ _ _ _ HZ3.out) valD valSize) rfl ?_
      exact ⟨by rfl, ((HW3.out.setCell (p := ⟨w.heap.size, 0, none⟩) (Nat.le_refl _) _).setCell (p := ⟨w.heap.size, 1, none⟩) (Nat.le_refl _) _).setCell (p := ⟨w.heap.size, 2, none⟩) (Nat.le_refl _) _⟩
end Go.Proofs.Ythbnhneibpoooaa
/- The heap's eq?, cdr for a law. -/
namespace Go.Proofs.Ythbnhneibpoooaa
open Go.RowKit
set_option linter.unusedVariables false
set_option linter.unusedSimpArgs false
section
variable {w : World} {h : Nat} {O : Nat → Prop} {T : List Hp.Th}
theorem use_eq (H : HSt w 65 h O T) (x y : Hp.V) (av : Value) (hv : VSl w av [x, y]) (hm : ∀ v ∈ [x, y], Hp.may T.length v = true) :
    Calls Try.prog 11 #[.pointer (some ⟨h, 0, none⟩), .string ⟨#[101, 113, 63]⟩, av] w (DoPost 65 h O (Hp.truth (decide (x = y))) 0 T w) := by
  refine do_row_act H ⟨⟨#[101, 113, 63]⟩, [46, 46], ⟨#[46, 46]⟩, -1, 0⟩ (tab_at 7 _ rfl) ⟨rfl, rfl⟩ (op_ne (by decide +kernel)) av [x, y] hv rfl (by simp) hm (fun v hv => hp_text (hm v hv)) rfl _ _ _ ?_
  intro w1 hb _
  refine (act_eq h _ (.inr rfl) x y av w1 (hv.below hb (Nat.le_refl _))).mono ?_
  rintro e w' ⟨rfl, hb2⟩
  exact DoPost.read (H.below hb (Nat.le_refl _)) rfl hb2
theorem use_cdr {k : Nat} {t : Hp.Th} (H : HSt w 65 h O T) (hk : T[k]? = some t) (h0 : t.kind = 0) (hl : t.parts.length ≤ 1000000) (r : Hp.V) (hr : t.parts[1]? = some r) (av : Value) (hv : VSl w av [⟨8, k, ⟨#[]⟩⟩]) (hf : Hp.free O av) :
    Calls Try.prog 11 #[.pointer (some ⟨h, 0, none⟩), .string ⟨#[99, 100, 114]⟩, av] w (DoPost 65 h O r 0 T w) := by
  have hkl : k < T.length := (List.getElem?_eq_some_iff.1 hk).1
  refine do_row_act H ⟨⟨#[99, 100, 114]⟩, [112], ⟨#[112]⟩, -1, 0⟩ (tab_at 20 _ rfl) ⟨rfl, rfl⟩ (op_ne (by decide +kernel)) av _ hv rfl (by simp) (by intro v hv; simp at hv; subst hv; simp [Hp.may]; omega) (by intro v hv; simp at hv; subst hv; exact Nat.zero_le _) (by simp [Hp.allOk, Hp.okAt, Hp.kindOf, hk, Hp.isL, h0]) _ _ _ ?_
  intro w1 hb _
  refine act_get1 h O T r 0 ⟨#[99, 100, 114]⟩ rfl _ av w1 (hv.below hb (Nat.le_refl _)) (fun b ho => Nat.lt_of_lt_of_le (H.lt b ho) hb.size) hf ?_
  intro w2 hb2 _
  have H2 := (H.below hb (Nat.le_refl _)).below hb2 (Nat.le_refl _)
  obtain ⟨vt, M, HA, e⟩ := H2
  obtain ⟨m, hm, hmt⟩ : ∃ m, M[k]? = some m ∧ m.1 = t := by
    rw [← e, List.getElem?_map] at hk
    simpa using hk
  subst hmt
  refine (get_in 1 1 ⟨#[]⟩ r w2 HA hm hl hr).mono ?_
  rintro e' w3 ⟨rfl, hb3⟩
  exact DoPost.read ⟨vt, M, HA, e⟩ rfl hb3
end
section
variable {w0 w : World} {h : Nat} {T : List Hp.Th} {L : List (Nat × Obj)}
theorem lw_eq (H : Lw w0 w h T L) (x y : Hp.V) (hx : Hp.may T.length x = true) (hy : Hp.may T.length y = true) (b : Bool) (hb : decide (x = y) = b) (r : Hp.V) (hr : Hp.truth b = r) {s : Nat} (hs : (s, Obj.cells #[.int .i64 x.kind, .int .i64 x.int, .string x.text, .int .i64 y.kind, .int .i64 y.int, .string y.text] 27 (0, 0)) ∈ L) :
    Calls Try.prog 11 #[.pointer (some ⟨h, 0, none⟩), .string ⟨#[101, 113, 63]⟩, .slice (some ⟨s, 0, none⟩) 2 2] w (LwPost w0 h T L r 0 w) := by
  subst hb
  subst hr
  refine H.call _ _ [x, y] _ rfl _ _ _ hs rfl fun O h1 h2 h3 => use_eq h1 x y _ h2 ?_
  intro v hv
  simp at hv
  rcases hv with rfl | rfl
  · exact hx
  · exact hy
theorem lw_cdr (H : Lw w0 w h T L) (k : Nat) (kk : Int) (hkk : kk = k) {t : Hp.Th} (hk : T[k]? = some t) (h0 : t.kind = 0) (hl : t.parts.length ≤ 1000000) (r : Hp.V) (hr : t.parts[1]? = some r) {s : Nat} (hs : (s, Obj.cells #[.int .i64 8, .int .i64 kk, .string ⟨#[]⟩] 27 (0, 0)) ∈ L) :
    Calls Try.prog 11 #[.pointer (some ⟨h, 0, none⟩), .string ⟨#[99, 100, 114]⟩, .slice (some ⟨s, 0, none⟩) 1 1] w (LwPost w0 h T L r 0 w) := by
  subst hkk
  exact H.call _ _ [⟨8, k, ⟨#[]⟩⟩] _ rfl _ _ _ hs rfl fun O h1 h2 h3 => use_cdr h1 hk h0 hl r hr _ h2 h3
end
end Go.Proofs.Ythbnhneibpoooaa
/- What a list of pairs shows, plainly. -/
namespace Go.Proofs.Ythbnhneibpoooaa
open Go.RowKit
set_option linter.unusedVariables false
set_option linter.unusedSimpArgs false
set_option linter.unnecessarySimpa false
theorem const_leaf {d : Dt} {v : Hp.V} (h : constF d = (v, true)) : Hp.leafD v = d ∧ v.kind ≠ 8 := by
  obtain ⟨hm, ht, _⟩ := const_told h
  have h8 : v.kind ≠ 8 := fun e => by
    have h0 := hm 0
    obtain ⟨k, hk, _⟩ := Hp.may_thing' h0 e
    omega
  refine ⟨?_, h8⟩
  have h1 := ht []
  rw [Hp.tellT, if_pos (hm _), Hp.tellF, if_neg (by omega), if_neg h8] at h1
  simpa using h1
/-- A list made pair by pair. -/
inductive Chain (T : List Hp.Th) : Hp.V → List Dt → Prop
  | nil : Chain T ⟨4, 0, ⟨#[]⟩⟩ []
  | cons (k : Nat) (c v : Hp.V) (d : Dt) (l : List Dt) (hk : T[k]? = some ⟨0, [c, v]⟩) (hc : constF d = (c, true)) (h : Chain T v l) : Chain T ⟨8, k, ⟨#[]⟩⟩ (d :: l)
theorem Chain.more {T T' : List Hp.Th} {v : Hp.V} {l : List Dt} (h : Chain T v l) : Chain (T ++ T') v l := by
  induction h with
  | nil => exact .nil
  | cons k c v d l hk hc h ih => exact .cons k c v d l (by rw [List.getElem?_append_left (List.getElem?_eq_some_iff.1 hk).1]; exact hk) hc ih
theorem Chain.may {T : List Hp.Th} {v : Hp.V} {l : List Dt} (h : Chain T v l) : Hp.may T.length v = true := by
  cases h with
  | nil => simp [Hp.may]
  | cons k c v d l hk hc h => exact may_8 (List.getElem?_eq_some_iff.1 hk).1
theorem Chain.told {T : List Hp.Th} {v : Hp.V} {l : List Dt} (h : Chain T v l) : ∀ (n left : Nat), 2 * l.length < left → l.length < n → Hp.tellF T n v 0 left = some (.mk 5 0 ⟨#[]⟩ l, left - 2 * l.length - 1) := by
  induction h with
  | nil =>
    intro n left h1 h2
    obtain ⟨n, rfl⟩ : ∃ m, n = m + 1 := ⟨n - 1, by omega⟩
    rw [Hp.tellF, if_neg (by simp at h1; omega), if_neg (by simp)]
    simp [Hp.leafD]
  | cons k c v d l hk hc h ih =>
    intro n left h1 h2
    simp only [List.length_cons] at h1 h2 ⊢
    obtain ⟨n, rfl⟩ : ∃ m, n = m + 1 := ⟨n - 1, by omega⟩
    obtain ⟨hl, h8⟩ := const_leaf hc
    have e1 : Hp.tellF T n c 1 (left - 1) = some (d, left - 2) := by
      obtain ⟨n, rfl⟩ : ∃ m, n = m + 1 := ⟨n - 1, by omega⟩
      rw [Hp.tellF, if_neg (by omega), if_neg h8, hl]
      rw [show left - 1 - 1 = left - 2 by omega]
    have e2 := ih n (left - 2) (by omega) (by omega)
    rw [Hp.tellF, if_neg (by omega), if_pos rfl]
    simp only [Int.toNat_natCast, hk, Option.bind_some]
    show Hp.thingF (Hp.tellF T n) ⟨0, [c, v]⟩ 0 (left - 1) = _
    have : Hp.thingF (Hp.tellF T n) ⟨0, [c, v]⟩ 0 (left - 1) = (Hp.tellF T n c (0 + 1) (left - 1)).bind fun x => (Hp.tellF T n v 0 x.2).map fun y => (mkD [x.1] y.1, y.2) := rfl
    rw [this, e1]
    simp only [Option.bind_some, e2, Option.map_some]
    have : mkD [d] (.mk 5 0 ⟨#[]⟩ l) = .mk 5 0 ⟨#[]⟩ (d :: l) := by simp [mkD, Dt.kind_mk, Dt.list_mk]
    rw [this]
    congr 2
    omega
theorem Chain.tellT {T : List Hp.Th} {v : Hp.V} {l : List Dt} (h : Chain T v l) (hl : l.length ≤ 60) : Hp.tellT T v = some (.mk 5 0 ⟨#[]⟩ l) := by
  rw [Hp.tellT, if_pos h.may, h.told 200 200 (by omega) (by omega)]
  rfl
/-- Things that are pairs alone. -/
structure Pairs (T : List Hp.Th) : Prop where
  pair : ∀ t ∈ T, ∃ a b, t = ⟨0, [a, b]⟩ ∧ Hp.may T.length a = true ∧ Hp.may T.length b = true
theorem may_grow {n m : Nat} {v : Hp.V} (h : Hp.may n v = true) (hn : n ≤ m) : Hp.may m v = true := by
  unfold Hp.may at *
  by_cases h3 : v.kind = 3
  · rw [if_pos h3] at *
    exact h
  · rw [if_neg h3] at *
    rw [Bool.and_eq_true] at *
    refine ⟨h.1, ?_⟩
    have h2 := h.2
    by_cases h8 : v.kind = 8
    · simp [h8] at h2 ⊢
      omega
    · simp [h8] at h2 ⊢
      exact h2
theorem Pairs.add {T : List Hp.Th} (H : Pairs T) {a b : Hp.V} (ha : Hp.may T.length a = true) (hb : Hp.may T.length b = true) : Pairs (T ++ [⟨0, [a, b]⟩]) := by
  refine ⟨fun t ht => ?_⟩
  have hn : T.length ≤ (T ++ [(⟨0, [a, b]⟩ : Hp.Th)]).length := by simp
  rcases List.mem_append.1 ht with ht | ht
  · obtain ⟨x, y, e, h1, h2⟩ := H.pair t ht
    exact ⟨x, y, e, may_grow h1 hn, may_grow h2 hn⟩
  · simp at ht
    exact ⟨a, b, ht, may_grow ha hn, may_grow hb hn⟩
theorem Pairs.wf {T : List Hp.Th} (H : Pairs T) : Hp.WfT T := by
  refine ⟨fun t ht => ?_, fun t ht => ?_, fun t ht => ?_, fun t ht => ?_, fun t ht p hp => ?_⟩ <;> obtain ⟨x, y, e, h1, h2⟩ := H.pair t ht <;> subst e
  · exact .inl rfl
  · intro _; rfl
  · intro e; simp at e
  · simp
  · simp at hp
    rcases hp with rfl | rfl
    · exact h1
    · exact h2
end Go.Proofs.Ythbnhneibpoooaa
