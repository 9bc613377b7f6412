/- The values of constants. -/
import Derived.Test.YtalfnaielhbocaaKJay
import Derived.Test.YtalfnaielhbocaaKJaw
import Derived.Test.YtalfnaielhbocaaKJax
set_option linter.unusedVariables false
set_option linter.unusedSimpArgs false
set_option linter.unnecessarySimpa false
namespace Go.Proofs.Ytalfnaielhbocaa
open Go.RowKit
set_option maxRecDepth 100000
set_option linter.unusedVariables false
set_option linter.unusedSimpArgs false
set_option linter.unnecessarySimpa false
def constF (d : Dt) : Hp.V × Bool :=
  if d.chkE ≠ 0 then (Hp.none, false) else if d.kind = 0 then (⟨0, d.int, ⟨#[]⟩⟩, true) else if d.kind = 1 then (⟨1, d.int, ⟨#[]⟩⟩, true) else if d.kind = 2 then (⟨2, d.int, ⟨#[]⟩⟩, true)
  else if d.kind = 4 then (⟨3, 0, d.text⟩, true) else if d.kind = 5 ∧ d.list = [] then (⟨4, 0, ⟨#[]⟩⟩, true) else (Hp.none, false)
def CnPost (r : Hp.V × Bool) (w : World) (e : Ending) (w' : World) : Prop := e = .returned (.tuple #[.agg #[.int .i64 r.1.kind, .int .i64 r.1.int, .string r.1.text], .bool r.2]) ∧ Below w.heap.size w w'
theorem cn_rows {w w3 : World} {a b c d : Value} (hb : Below ((w.alloc (.cells #[a, b, c, d] 31)).alloc (.cells #[.int .i64 0, .int .i64 0, .string ⟨#[]⟩] 64)).heap.size ((w.alloc (.cells #[a, b, c, d] 31)).alloc (.cells #[.int .i64 0, .int .i64 0, .string ⟨#[]⟩] 64)) w3) :
    Below w.heap.size w w3 ∧ Cell4 w.heap.size a b c d w3 ∧ w3.heap[w.heap.size + 1]? = some (.cells #[.int .i64 0, .int .i64 0, .string ⟨#[]⟩] 64 (0, 0)) := by
  refine ⟨(((Below.refl _ _).alloc (Nat.le_refl _) _).alloc (by simp) _).trans (hb.mono (by simp; omega)), ?_, (hb.block _ (by simp)).trans (heap_new (by simp))⟩
  have h := new4 w a b c d 31
  exact (Cell4.same (w := w.alloc (.cells #[a, b, c, d] 31)) h (heap_alloc_old _ _ (by simp))).below hb (by simp; omega)
set_option maxHeartbeats 8000000 in
theorem dconst_any (d : Dt) (v : Value) (w : World) (hd : DtAt w (fun _ => True) v d) (hf : Dt.Fit d) : Calls Try.prog 55 #[v] w (CnPost (constF d) w) := by
  have HC : Hid (∀ (w1 : World), Below w.heap.size w w1 → Calls Try.prog 68 #[v] w1 fun e w' => e = .returned (.int .i64 d.chkE) ∧ Below w1.heap.size w1 w') := fun w1 hb => dcheck_any d v w1 ((hd.bel hb (Nat.le_refl _)).mono fun _ _ h => h) hf
  obtain ⟨a, c, rfl, hnil⟩ := hd.inv
  have hnil2 : d.list = [] ∨ True := .inr trivial
  clear hd hf hnil hnil2
  unfold CnPost
  obtain ⟨k, i, t, l⟩ := d
  simp only [Dt.kind_mk, Dt.int_mk, Dt.text_mk, Dt.list_mk] at *
  by_cases hE : (Dt.mk k i t l).chkE = 0
  · rw [hE] at HC
    rcases (by omega : k = 0 ∨ k = 1 ∨ k = 2 ∨ k = 4 ∨ k = 5 ∨ (¬ k = 0 ∧ ¬ k = 1 ∧ ¬ k = 2 ∧ ¬ k = 4 ∧ ¬ k = 5)) with rfl | rfl | rfl | rfl | rfl | hk
    · skip
      have HR : Hid (constF (.mk 0 i t l) = (⟨0, i, ⟨#[]⟩⟩, true)) := Lib.hid (by simp [constF, Dt.kind_mk, Dt.int_mk, Dt.text_mk, Dt.list_mk, hE])
      rw [HR.out]
      clear hE
      go_enter Try.func55, Try.ntmps55
      go_wp2_with fail
      with_reducible refine (HC.out _ ((((Below.refl _ _).alloc (Nat.le_refl _) _).alloc (by simp) _))).mono ?_
      rintro e w3 ⟨rfl, hb3⟩
      obtain ⟨hB3, ⟨q0, q1, q2, q3⟩, hz3⟩ := cn_rows hb3
      obtain ⟨z0, z1, z2, y0, y1, y2⟩ := Zer3.of hz3
      have HB3 := Lib.hid hB3
      have HZ3 := Lib.hid hz3
      clear hb3 hB3 hz3
      go_wp2_with fail
      refine bodyPost_ret (res2 rfl _ _ (w.heap.size + 1) 64 _ (0, 0) rfl (three_set _ _ _ _ _ _ _ _ _ HZ3.out) valD valSize) rfl ?_
      exact ⟨rfl, ((HB3.out.setCell (p := ⟨w.heap.size + 1, 0, none⟩) (by simp) _).setCell (p := ⟨w.heap.size + 1, 1, none⟩) (by simp) _).setCell (p := ⟨w.heap.size + 1, 2, none⟩) (by simp) _⟩
    · skip
      have HR : Hid (constF (.mk 1 i t l) = (⟨1, i, ⟨#[]⟩⟩, true)) := Lib.hid (by simp [constF, Dt.kind_mk, Dt.int_mk, Dt.text_mk, Dt.list_mk, hE])
      rw [HR.out]
      clear hE
      go_enter Try.func55, Try.ntmps55
      go_wp2_with fail
      with_reducible refine (HC.out _ ((((Below.refl _ _).alloc (Nat.le_refl _) _).alloc (by simp) _))).mono ?_
      rintro e w3 ⟨rfl, hb3⟩
      obtain ⟨hB3, ⟨q0, q1, q2, q3⟩, hz3⟩ := cn_rows hb3
      obtain ⟨z0, z1, z2, y0, y1, y2⟩ := Zer3.of hz3
      have HB3 := Lib.hid hB3
      have HZ3 := Lib.hid hz3
      clear hb3 hB3 hz3
      go_wp2_with fail
      refine bodyPost_ret (res2 rfl _ _ (w.heap.size + 1) 64 _ (0, 0) rfl (three_set _ _ _ _ _ _ _ _ _ HZ3.out) valD valSize) rfl ?_
      exact ⟨rfl, ((HB3.out.setCell (p := ⟨w.heap.size + 1, 0, none⟩) (by simp) _).setCell (p := ⟨w.heap.size + 1, 1, none⟩) (by simp) _).setCell (p := ⟨w.heap.size + 1, 2, none⟩) (by simp) _⟩
    · skip
      have HR : Hid (constF (.mk 2 i t l) = (⟨2, i, ⟨#[]⟩⟩, true)) := Lib.hid (by simp [constF, Dt.kind_mk, Dt.int_mk, Dt.text_mk, Dt.list_mk, hE])
      rw [HR.out]
      clear hE
      go_enter Try.func55, Try.ntmps55
      go_wp2_with fail
      with_reducible refine (HC.out _ ((((Below.refl _ _).alloc (Nat.le_refl _) _).alloc (by simp) _))).mono ?_
      rintro e w3 ⟨rfl, hb3⟩
      obtain ⟨hB3, ⟨q0, q1, q2, q3⟩, hz3⟩ := cn_rows hb3
      obtain ⟨z0, z1, z2, y0, y1, y2⟩ := Zer3.of hz3
      have HB3 := Lib.hid hB3
      have HZ3 := Lib.hid hz3
      clear hb3 hB3 hz3
      go_wp2_with fail
      refine bodyPost_ret (res2 rfl _ _ (w.heap.size + 1) 64 _ (0, 0) rfl (three_set _ _ _ _ _ _ _ _ _ HZ3.out) valD valSize) rfl ?_
      exact ⟨rfl, ((HB3.out.setCell (p := ⟨w.heap.size + 1, 0, none⟩) (by simp) _).setCell (p := ⟨w.heap.size + 1, 1, none⟩) (by simp) _).setCell (p := ⟨w.heap.size + 1, 2, none⟩) (by simp) _⟩
    · skip
      have HR : Hid (constF (.mk 4 i t l) = (⟨3, 0, t⟩, true)) := Lib.hid (by simp [constF, Dt.kind_mk, Dt.int_mk, Dt.text_mk, Dt.list_mk, hE])
      rw [HR.out]
      clear hE
      go_enter Try.func55, Try.ntmps55
      go_wp2_with fail
      with_reducible refine (HC.out _ ((((Below.refl _ _).alloc (Nat.le_refl _) _).alloc (by simp) _))).mono ?_
      rintro e w3 ⟨rfl, hb3⟩
      obtain ⟨hB3, ⟨q0, q1, q2, q3⟩, hz3⟩ := cn_rows hb3
      obtain ⟨z0, z1, z2, y0, y1, y2⟩ := Zer3.of hz3
      have HB3 := Lib.hid hB3
      have HZ3 := Lib.hid hz3
      clear hb3 hB3 hz3
      go_wp2_with fail
      refine bodyPost_ret (res2 rfl _ _ (w.heap.size + 1) 64 _ (0, 0) rfl (three_set _ _ _ _ _ _ _ _ _ HZ3.out) valD valSize) rfl ?_
      exact ⟨rfl, ((HB3.out.setCell (p := ⟨w.heap.size + 1, 0, none⟩) (by simp) _).setCell (p := ⟨w.heap.size + 1, 1, none⟩) (by simp) _).setCell (p := ⟨w.heap.size + 1, 2, none⟩) (by simp) _⟩
    · by_cases hl : l = []
      · subst hl
        simp only [List.length_nil] at HC ⊢
        have HR : Hid (constF (.mk 5 i t []) = (⟨4, 0, ⟨#[]⟩⟩, true)) := Lib.hid (by simp [constF, Dt.kind_mk, Dt.int_mk, Dt.text_mk, Dt.list_mk, hE])
        rw [HR.out]
        clear hE
        go_enter Try.func55, Try.ntmps55
        go_wp2_with fail
        with_reducible refine (HC.out _ ((((Below.refl _ _).alloc (Nat.le_refl _) _).alloc (by simp) _))).mono ?_
        rintro e w3 ⟨rfl, hb3⟩
        obtain ⟨hB3, ⟨q0, q1, q2, q3⟩, hz3⟩ := cn_rows hb3
        obtain ⟨z0, z1, z2, y0, y1, y2⟩ := Zer3.of hz3
        have HB3 := Lib.hid hB3
        have HZ3 := Lib.hid hz3
        clear hb3 hB3 hz3
        go_wp2_with fail
        refine bodyPost_ret (res2 rfl _ _ (w.heap.size + 1) 64 _ (0, 0) rfl (three_set _ _ _ _ _ _ _ _ _ HZ3.out) valD valSize) rfl ?_
        exact ⟨rfl, ((HB3.out.setCell (p := ⟨w.heap.size + 1, 0, none⟩) (by simp) _).setCell (p := ⟨w.heap.size + 1, 1, none⟩) (by simp) _).setCell (p := ⟨w.heap.size + 1, 2, none⟩) (by simp) _⟩
      · obtain ⟨l1, l2, l3⟩ := list_facts hl
        have l4 : (l.length == 0) = false := beq_eq_false_iff_ne.2 l2
        have l5 : ((l.length : Int) == 0) = false := beq_eq_false_iff_ne.2 (by omega)
        have HR : Hid (constF (.mk 5 i t l) = (⟨0, 0, ⟨#[]⟩⟩, false)) := Lib.hid (by simp [constF, Dt.kind_mk, Dt.int_mk, Dt.text_mk, Dt.list_mk, hE, hl, Hp.none])
        rw [HR.out]
        clear hE l3 hl
        go_enter Try.func55, Try.ntmps55
        go_wp2_with fail
        with_reducible refine (HC.out _ ((((Below.refl _ _).alloc (Nat.le_refl _) _).alloc (by simp) _))).mono ?_
        rintro e w3 ⟨rfl, hb3⟩
        obtain ⟨hB3, ⟨q0, q1, q2, q3⟩, hz3⟩ := cn_rows hb3
        obtain ⟨z0, z1, z2, y0, y1, y2⟩ := Zer3.of hz3
        have HB3 := Lib.hid hB3
        have HZ3 := Lib.hid hz3
        clear hb3 hB3 hz3
        go_wp2_with fail
        refine bodyPost_ret (res2 rfl _ _ (w.heap.size + 1) 64 _ (0, 0) rfl (three_set _ _ _ _ _ _ _ _ _ HZ3.out) valD valSize) rfl ?_
        exact ⟨rfl, ((HB3.out.setCell (p := ⟨w.heap.size + 1, 0, none⟩) (by simp) _).setCell (p := ⟨w.heap.size + 1, 1, none⟩) (by simp) _).setCell (p := ⟨w.heap.size + 1, 2, none⟩) (by simp) _⟩
    · obtain ⟨k0, k1, k2, k4, k5⟩ := hk
      have j0 : (k == 0) = false := beq_eq_false_iff_ne.2 k0
      have j1 : (k == 1) = false := beq_eq_false_iff_ne.2 k1
      have j2 : (k == 2) = false := beq_eq_false_iff_ne.2 k2
      have j4 : (k == 4) = false := beq_eq_false_iff_ne.2 k4
      have j5 : (k == 5) = false := beq_eq_false_iff_ne.2 k5
      have HR : Hid (constF (.mk k i t l) = (⟨0, 0, ⟨#[]⟩⟩, false)) := Lib.hid (by simp [constF, Dt.kind_mk, Dt.int_mk, Dt.text_mk, Dt.list_mk, hE, k0, k1, k2, k4, k5, Hp.none])
      rw [HR.out]
      clear hE k0 k1 k2 k4 k5
      go_enter Try.func55, Try.ntmps55
      go_wp2_with fail
      with_reducible refine (HC.out _ ((((Below.refl _ _).alloc (Nat.le_refl _) _).alloc (by simp) _))).mono ?_
      rintro e w3 ⟨rfl, hb3⟩
      obtain ⟨hB3, ⟨q0, q1, q2, q3⟩, hz3⟩ := cn_rows hb3
      obtain ⟨z0, z1, z2, y0, y1, y2⟩ := Zer3.of hz3
      have HB3 := Lib.hid hB3
      have HZ3 := Lib.hid hz3
      clear hb3 hB3 hz3
      go_wp2_with fail
      refine bodyPost_ret (res2 rfl _ _ (w.heap.size + 1) 64 _ (0, 0) rfl (three_set _ _ _ _ _ _ _ _ _ HZ3.out) valD valSize) rfl ?_
      exact ⟨rfl, ((HB3.out.setCell (p := ⟨w.heap.size + 1, 0, none⟩) (by simp) _).setCell (p := ⟨w.heap.size + 1, 1, none⟩) (by simp) _).setCell (p := ⟨w.heap.size + 1, 2, none⟩) (by simp) _⟩
  · have hE2 : ((Dt.mk k i t l).chkE != 0) = true := by simpa using hE
    have HR : Hid (constF (.mk k i t l) = (⟨0, 0, ⟨#[]⟩⟩, false)) := Lib.hid (by simp [constF, Dt.kind_mk, Dt.int_mk, Dt.text_mk, Dt.list_mk, hE, Hp.none])
    rw [HR.out]
    generalize (Dt.mk k i t l).chkE = E at *
    clear HR hE
    go_enter Try.func55, Try.ntmps55
    go_wp2_with fail
    with_reducible refine (HC.out _ ((((Below.refl _ _).alloc (Nat.le_refl _) _).alloc (by simp) _))).mono ?_
    rintro e w3 ⟨rfl, hb3⟩
    obtain ⟨hB3, ⟨q0, q1, q2, q3⟩, hz3⟩ := cn_rows hb3
    obtain ⟨z0, z1, z2, y0, y1, y2⟩ := Zer3.of hz3
    have HB3 := Lib.hid hB3
    have HZ3 := Lib.hid hz3
    clear hb3 hB3 hz3
    go_wp2_with fail
    refine bodyPost_ret (res2 rfl _ _ (w.heap.size + 1) 64 _ (0, 0) rfl (three_set _ _ _ _ _ _ _ _ _ HZ3.out) valD valSize) rfl ?_
    exact ⟨rfl, ((HB3.out.setCell (p := ⟨w.heap.size + 1, 0, none⟩) (by simp) _).setCell (p := ⟨w.heap.size + 1, 1, none⟩) (by simp) _).setCell (p := ⟨w.heap.size + 1, 2, none⟩) (by simp) _⟩
end Go.Proofs.Ytalfnaielhbocaa
namespace Go.Proofs.Ytalfnaielhbocaa
open Go.RowKit
set_option maxRecDepth 100000
set_option linter.unusedVariables false
set_option linter.unusedSimpArgs false
namespace Hp
structure Good (n : Nat) (T : List Th) : Prop where
  len : T.length ≤ n
  few : ∀ t ∈ T, t.parts.length ≤ 1000
  text : ∀ t ∈ T, ∀ p ∈ t.parts, p.text.size ≤ maxLen
theorem Good.mono {n k : Nat} {T : List Th} (h : Good n T) (hn : n ≤ k) : Good k T := ⟨Nat.le_trans h.len hn, h.few, h.text⟩
def GoodR (n : Nat) (r : V × Int × List Th) : Prop := Good n r.2.2 ∧ r.1.text.size ≤ maxLen
theorem zero_le_max : (⟨#[]⟩ : ByteArray).size ≤ maxLen := Nat.zero_le _
theorem good_no {n : Nat} {T : List Th} (h : Good n T) (e : Int) : GoodR (n + 1) (none, e, T) := ⟨h.mono (Nat.le_succ _), zero_le_max⟩
theorem good_say {n : Nat} {T : List Th} (h : Good n T) (v : V) (hv : v.text.size ≤ maxLen) : GoodR (n + 1) (sayF T v) := ⟨h.mono (Nat.le_succ _), hv⟩
theorem partsOf_text {n : Nat} {T : List Th} (h : Good n T) (a : V) : ∀ p ∈ partsOf T a, p.text.size ≤ maxLen := by
  unfold partsOf
  split
  · rename_i t ht
    exact h.text t (List.mem_of_getElem? ht)
  · simp
theorem partsOf_few {n : Nat} {T : List Th} (h : Good n T) (a : V) : (partsOf T a).length ≤ 1000 := by
  unfold partsOf
  split
  · rename_i t ht
    exact h.few t (List.mem_of_getElem? ht)
  · simp
theorem good_get {n : Nat} {T : List Th} (h : Good n T) (a : V) (i : Int) : GoodR (n + 1) (getF T a i) := by
  unfold getF
  split
  · rename_i hi
    refine ⟨h.mono (Nat.le_succ _), ?_⟩
    refine partsOf_text h a _ ?_
    rw [List.getD_eq_getElem?_getD, List.getElem?_eq_getElem (by omega)]
    exact List.getElem_mem _
  · exact good_no h 83
theorem good_add {n : Nat} {T : List Th} (h : Good n T) (t : Th) (ht : t.parts.length ≤ 1000) (hx : ∀ p ∈ t.parts, p.text.size ≤ maxLen) : GoodR (n + 1) (addF T t) := by
  refine ⟨⟨by rw [show (addF T t).2.2 = T ++ [t] from rfl, List.length_append]; exact Nat.succ_le_succ h.len, fun u hu => ?_, fun u hu => ?_⟩, zero_le_max⟩
  · rcases List.mem_append.1 (show u ∈ T ++ [t] from hu) with hu | hu
    · exact h.few u hu
    · rw [List.mem_singleton.1 hu]; exact ht
  · rcases List.mem_append.1 (show u ∈ T ++ [t] from hu) with hu | hu
    · exact h.text u hu
    · rw [List.mem_singleton.1 hu]; exact hx
theorem good_put {n : Nat} {T : List Th} (h : Good n T) (a : V) (i : Int) (x : V) (hx : x.text.size ≤ maxLen) : GoodR (n + 1) (putF T a i x) := by
  unfold putF
  split
  · refine ⟨⟨by rw [List.length_set]; exact Nat.le_trans h.len (Nat.le_succ _), fun u hu => ?_, fun u hu => ?_⟩, zero_le_max⟩
    · rcases List.mem_or_eq_of_mem_set hu with hu | rfl
      · exact h.few u hu
      · rw [List.length_set]; exact partsOf_few h a
    · rcases List.mem_or_eq_of_mem_set hu with hu | rfl
      · exact h.text u hu
      · intro p hp
        rcases List.mem_or_eq_of_mem_set hp with hp | rfl
        · exact partsOf_text h a p hp
        · exact hx
  · exact good_no h 83
theorem good_fill {n : Nat} {T : List Th} (h : Good n T) (kind k : Int) (v : V) (hv : v.text.size ≤ maxLen) : GoodR (n + 1) (fillF T kind k v) := by
  unfold fillF
  split
  · exact good_no h 83
  · exact good_add h _ (by rw [List.length_replicate]; omega) fun p hp => by rw [List.eq_of_mem_replicate hp]; exact hv
theorem good_reck {n : Nat} {T : List Th} (h : Good n T) (op x y : Int) : GoodR (n + 1) ((reckF op x y).1, (reckF op x y).2, T) := by
  refine ⟨h.mono (Nat.le_succ _), ?_⟩
  unfold reckF
  split
  · exact zero_le_max
  split
  · exact zero_le_max
  · exact zero_le_max
theorem getD_text {l : List V} (hl : ∀ v ∈ l, v.text.size ≤ maxLen) (k : Nat) : (l.getD k none).text.size ≤ maxLen := by
  rw [List.getD_eq_getElem?_getD]
  cases h : l[k]? with
  | none => exact zero_le_max
  | some v => exact hl v (List.mem_of_getElem? h)
theorem good_act {n : Nat} {T : List Th} (h : Good n T) (i : Nat) (a b c : V) (l : List V) (hb : b.text.size ≤ maxLen) (hc : c.text.size ≤ maxLen) (hl : ∀ v ∈ l, v.text.size ≤ maxLen) (hl2 : l.length ≤ 1000) : GoodR (n + 1) (actF T i a b c l) := by
  unfold actF
  split
  all_goals first
    | exact good_reck h _ _ _
    | exact good_get h _ _
    | exact good_put h _ _ _ hb
    | exact good_put h _ _ _ hc
    | exact good_fill h _ _ _ hb
    | exact good_add h _ hl2 hl
    | exact good_say h _ zero_le_max
    | (split
       · exact good_no h _
       · exact good_say h _ zero_le_max)
theorem good_do {n : Nat} {T : List Th} (h : Good n T) (p : ByteArray) (l : List V) (hl : ∀ v ∈ l, v.text.size ≤ maxLen) (hl2 : l.length ≤ 1000) : GoodR (n + 1) (doF T p l) := by
  unfold doF
  split
  · split
    · exact good_no h _
    split
    · exact good_no h _
    split
    · exact good_no h _
    · exact good_act h _ _ _ _ _ (getD_text hl 1) (getD_text hl 2) hl hl2
  · exact good_no h _
end Hp
end Go.Proofs.Ytalfnaielhbocaa
namespace Go.Proofs.Ytalfnaielhbocaa
open Go.RowKit
set_option maxRecDepth 100000
set_option linter.unusedVariables false
set_option linter.unusedSimpArgs false
namespace Hp
theorem may_mono {n k : Nat} {v : V} (h : may n v = true) (hn : n ≤ k) : may k v = true := by
  unfold may at *
  split
  · rename_i h3
    rw [if_pos h3] at h
    exact h
  · rename_i h3
    rw [if_neg h3] at h
    by_cases h8 : v.kind = 8
    · simp [h8] at h ⊢
      exact ⟨h.1, h.2.1, by omega⟩
    · simp [h8] at h ⊢
      exact h
theorem may_none (n : Nat) : may n none = true := by
  unfold may none
  simp
structure WfTh (n : Nat) (t : Th) : Prop where
  kind : t.kind = 0 ∨ t.kind = 1 ∨ t.kind = 2 ∨ t.kind = 3 ∨ t.kind = 4
  pair : t.kind = 0 → t.parts.length = 2
  box : t.kind = 3 → t.parts.length = 1
  len : t.parts.length ≤ 1000
  may : ∀ p ∈ t.parts, Hp.may n p = true
theorem wf_iff (T : List Th) : WfT T ↔ ∀ t ∈ T, WfTh T.length t :=
  ⟨fun h t ht => ⟨h.kind t ht, h.pair t ht, h.box t ht, h.len t ht, h.may t ht⟩, fun h => ⟨fun t ht => (h t ht).kind, fun t ht => (h t ht).pair, fun t ht => (h t ht).box, fun t ht => (h t ht).len, fun t ht => (h t ht).may⟩⟩
theorem WfTh.mono {n k : Nat} {t : Th} (h : WfTh n t) (hn : n ≤ k) : WfTh k t := ⟨h.kind, h.pair, h.box, h.len, fun p hp => may_mono (h.may p hp) hn⟩
theorem wf_add {T : List Th} (h : WfT T) {t : Th} (ht : WfTh T.length t) : WfT (T ++ [t]) := by
  rw [wf_iff] at *
  intro u hu
  rw [List.length_append]
  rcases List.mem_append.1 hu with hu | hu
  · exact (h u hu).mono (by omega)
  · rw [List.mem_singleton.1 hu]
    exact ht.mono (by omega)
theorem kindOf_at {T : List Th} {v : V} (h : 0 ≤ kindOf T v) : ∃ t, T[v.int.toNat]? = some t ∧ kindOf T v = t.kind := by
  unfold kindOf at *
  split
  · rename_i h8
    rw [if_pos h8] at h
    split
    · rename_i t ht
      exact ⟨t, ht, rfl⟩
    · rename_i hn
      rw [hn] at h
      simp at h
  · rename_i h8
    rw [if_neg h8] at h
    simp at h
theorem wf_put {T : List Th} (h : WfT T) {v x : V} {i : Int} (hk : 0 ≤ kindOf T v) (hx : may T.length x = true) : WfT (putF T v i x).2.2 := by
  unfold putF
  split
  · obtain ⟨t, ht, e⟩ := kindOf_at hk
    have hp : partsOf T v = t.parts := by unfold partsOf; rw [ht]
    have hw := (wf_iff T).1 h t (List.mem_of_getElem? ht)
    rw [wf_iff]
    intro u hu
    rw [List.length_set]
    rcases List.mem_or_eq_of_mem_set hu with hu | rfl
    · exact (wf_iff T).1 h u hu
    · rw [hp, e]
      refine ⟨hw.kind, fun e0 => by simpa using hw.pair e0, fun e0 => by simpa using hw.box e0, by simpa using hw.len, fun p hp => ?_⟩
      rcases List.mem_or_eq_of_mem_set hp with hp | rfl
      · exact hw.may p hp
      · exact hx
  · exact h
theorem wf_fill {T : List Th} (h : WfT T) {kind k : Int} {v : V} (hk : kind = 1 ∨ kind = 2) (hv : may T.length v = true) : WfT (fillF T kind k v).2.2 := by
  unfold fillF
  split
  · exact h
  · refine wf_add h ⟨by show kind = 0 ∨ kind = 1 ∨ kind = 2 ∨ kind = 3 ∨ kind = 4; omega, fun e => ?_, fun e => ?_, by simp; omega, fun p hp => by rw [List.eq_of_mem_replicate hp]; exact hv⟩
    · have : kind = 0 := e
      omega
    · have : kind = 3 := e
      omega
theorem wf_get {T : List Th} (h : WfT T) (a : V) (i : Int) : WfT (getF T a i).2.2 := by
  unfold getF
  split <;> exact h
theorem getD_may {n : Nat} {l : List V} (hl : l.all (may n) = true) (k : Nat) : may n (l.getD k none) = true := by
  rw [List.getD_eq_getElem?_getD]
  cases h : l[k]? with
  | none => exact may_none n
  | some v => exact List.all_eq_true.1 hl v (List.mem_of_getElem? h)
theorem first_kind {T : List Th} {l : List V} {c : Int} {ls : List Int} (hlen : (c :: ls).length = l.length) (hok : allOk T l (c :: ls) = true) (hc : c = 112 ∨ c = 118 ∨ c = 115 ∨ c = 98) : 0 ≤ kindOf T (l.getD 0 none) := by
  cases l with
  | nil => simp at hlen
  | cons q l =>
    unfold allOk okAt isL at hok
    rcases hc with rfl | rfl | rfl | rfl
    all_goals
      simp at hok
      simp
      omega
theorem wf_do {T : List Th} (h : WfT T) (p : ByteArray) (l : List V) (hl2 : l.length ≤ 1000) : WfT (doF T p l).2.2 := by
  unfold doF
  split
  · rename_i x hx
    split
    · exact h
    rename_i h1
    split
    · exact h
    rename_i h2
    split
    · exact h
    rename_i h3
    have hm : l.all (may T.length) = true := by simpa using h2
    have hok : allOk T l x.letters = true := by simpa using h3
    have hlen : x.letters.length = l.length := by
      by_cases e : x.letters.length = l.length
      · exact e
      · exact absurd (.inr e) h1
    generalize (rat p 38).toNat = i at hx ⊢
    clear h1 h2 h3
    unfold actF
    split
    all_goals first
      | exact h
      | exact wf_get h _ _
      | (split <;> exact h)
      | exact wf_fill h (.inl rfl) (getD_may hm 1)
      | exact wf_fill h (.inr rfl) (getD_may hm 1)
      | skip
    all_goals
      simp only [tab, List.getElem?_cons_succ, List.getElem?_cons_zero, Option.some.injEq] at hx
      subst hx
    all_goals first
      | exact wf_put h (first_kind hlen hok (by decide)) (getD_may hm 1)
      | exact wf_put h (first_kind hlen hok (by decide)) (getD_may hm 2)
      | exact wf_add h ⟨.inl rfl, fun _ => hlen.symm, fun e => absurd (show (0 : Int) = 3 from e) (by decide), hl2, fun p hp => List.all_eq_true.1 hm p hp⟩
      | exact wf_add h ⟨.inr (.inr (.inr (.inl rfl))), fun e => absurd (show (3 : Int) = 0 from e) (by decide), fun _ => hlen.symm, hl2, fun p hp => List.all_eq_true.1 hm p hp⟩
  · exact h
end Hp
end Go.Proofs.Ytalfnaielhbocaa
namespace Go.Proofs.Ytalfnaielhbocaa
open Go.RowKit
set_option linter.unusedVariables false
set_option linter.unusedSimpArgs false
namespace Vm
structure Ins where
  op : ByteArray
  to : Int
  args : List Int
  const : Dt
  num : Int
structure Fin where
  kind : Int
  reg : Int
  args : List Int
  to : Int
  next : Int
  els : Int
structure Blk where
  ins : List Ins
  fin : Fin
structure Prc where
  params : Int
  holds : Int
  regs : Int
  blocks : List Blk
abbrev Code := List Prc
def sConst : ByteArray := ⟨#[99, 111, 110, 115, 116]⟩
def sMove : ByteArray := ⟨#[109, 111, 118, 101]⟩
def sHeld : ByteArray := ⟨#[104, 101, 108, 100]⟩
def sClosure : ByteArray := ⟨#[99, 108, 111, 115, 117, 114, 101]⟩
def sTie : ByteArray := ⟨#[116, 105, 101]⟩
def sCallcc : ByteArray := ⟨#[37, 99, 97, 108, 108, 99, 99]⟩
def sRead : ByteArray := ⟨#[114, 101, 97, 100, 45, 117, 56]⟩
def sWrite : ByteArray := ⟨#[119, 114, 105, 116, 101, 45, 117, 56]⟩
def sError : ByteArray := ⟨#[101, 114, 114, 111, 114]⟩
def sWinders : ByteArray := ⟨#[37, 119, 105, 110, 100, 101, 114, 115]⟩
def sWind : ByteArray := ⟨#[37, 119, 105, 110, 100, 33]⟩
def prims0 : List ByteArray := [sRead, sError, ⟨#[118, 111, 105, 100]⟩, sWinders, ⟨#[37, 117, 110, 115, 101, 116]⟩]
def prims1 : List ByteArray := [⟨#[110, 117, 108, 108, 63]⟩, ⟨#[112, 97, 105, 114, 63]⟩, ⟨#[118, 101, 99, 116, 111, 114, 63]⟩, ⟨#[115, 116, 114, 105, 110, 103, 63]⟩, ⟨#[115, 121, 109, 98, 111, 108, 63]⟩, ⟨#[99, 104, 97, 114, 63]⟩, ⟨#[105, 110, 116, 101, 103, 101, 114, 63]⟩, ⟨#[98, 111, 111, 108, 101, 97, 110, 63]⟩, ⟨#[112, 114, 111, 99, 101, 100, 117, 114, 101, 63]⟩, ⟨#[101, 111, 102, 45, 111, 98, 106, 101, 99, 116, 63]⟩, ⟨#[99, 97, 114]⟩, ⟨#[99, 100, 114]⟩, ⟨#[118, 101, 99, 116, 111, 114, 45, 108, 101, 110, 103, 116, 104]⟩, ⟨#[115, 116, 114, 105, 110, 103, 45, 108, 101, 110, 103, 116, 104]⟩, ⟨#[99, 104, 97, 114, 45, 62, 105, 110, 116, 101, 103, 101, 114]⟩, ⟨#[105, 110, 116, 101, 103, 101, 114, 45, 62, 99, 104, 97, 114]⟩, sWrite, ⟨#[37, 98, 111, 120]⟩, ⟨#[37, 117, 110, 98, 111, 120]⟩, sWind, sCallcc]
def prims2 : List ByteArray := [⟨#[43]⟩, ⟨#[45]⟩, ⟨#[42]⟩, ⟨#[113, 117, 111, 116, 105, 101, 110, 116]⟩, ⟨#[114, 101, 109, 97, 105, 110, 100, 101, 114]⟩, ⟨#[60]⟩, ⟨#[61]⟩, ⟨#[101, 113, 63]⟩, ⟨#[99, 111, 110, 115]⟩, ⟨#[115, 101, 116, 45, 99, 97, 114, 33]⟩, ⟨#[115, 101, 116, 45, 99, 100, 114, 33]⟩, ⟨#[109, 97, 107, 101, 45, 118, 101, 99, 116, 111, 114]⟩, ⟨#[118, 101, 99, 116, 111, 114, 45, 114, 101, 102]⟩, ⟨#[109, 97, 107, 101, 45, 115, 116, 114, 105, 110, 103]⟩, ⟨#[115, 116, 114, 105, 110, 103, 45, 114, 101, 102]⟩, ⟨#[37, 115, 101, 116, 45, 98, 111, 120, 33]⟩]
def prims3 : List ByteArray := [⟨#[118, 101, 99, 116, 111, 114, 45, 115, 101, 116, 33]⟩, ⟨#[115, 116, 114, 105, 110, 103, 45, 115, 101, 116, 33]⟩]
def inN (l : List ByteArray) (s : ByteArray) : Bool := l.any fun x => decide (x = s)
def arity (s : ByteArray) : Int := if inN prims0 s then 0 else if inN prims1 s then 1 else if inN prims2 s then 2 else if inN prims3 s then 3 else -1
def bare (d : Dt) : Bool := decide (d.kind = 0) && decide (d.int = 0) && decide (d.text = ⟨#[]⟩) && decide (d.list.length = 0)
def regsB (p : Prc) (l : List Int) : Bool := l.all fun r => decide (0 ≤ r) && decide (r < p.regs)
def blockB (p : Prc) (b : Int) : Bool := decide (0 ≤ b) && decide (b < p.blocks.length)
def insB (c : Code) (p : Prc) (x : Ins) : Bool :=
  if x.op = sConst then decide (x.args.length = 0) && decide (x.num = 0) && regsB p [x.to] && (constF x.const).2
  else if x.op = sMove then decide (x.args.length = 1) && decide (x.num = 0) && regsB p [x.to] && regsB p x.args && bare x.const
  else if x.op = sHeld then decide (x.args.length = 0) && (decide (0 ≤ x.num) && decide (x.num < p.holds)) && regsB p [x.to] && regsB p x.args && bare x.const
  else if x.op = sClosure then (decide (1 ≤ x.num) && decide (x.num < c.length)) && (match c[x.num.toNat]? with | some q => decide ((x.args.length : Int) = q.holds) | none => false) && regsB p [x.to] && regsB p x.args && bare x.const
  else if x.op = sTie then decide (x.args.length = 2) && decide (0 ≤ x.num) && decide (x.to = 0) && regsB p x.args && bare x.const
  else if x.op = sCallcc then false
  else decide ((x.args.length : Int) = arity x.op) && decide (x.num = 0) && regsB p [x.to] && regsB p x.args && bare x.const
def finB (p : Prc) (x : Fin) : Bool :=
  if x.kind = 0 then blockB p x.next && decide (x.args.length = 0) && decide (x.reg = 0) && decide (x.to = 0) && decide (x.els = 0)
  else if x.kind = 1 then blockB p x.next && decide (x.args.length = 0) && regsB p [x.reg] && blockB p x.els && decide (x.to = 0)
  else if x.kind = 2 ∨ x.kind = 5 then regsB p [x.reg] && decide (x.args.length = 0) && decide (x.to = 0) && decide (x.next = 0) && decide (x.els = 0)
  else if x.kind = 3 then regsB p [x.reg] && (decide (x.args.length ≤ 6) && regsB p x.args) && decide (x.to = 0) && decide (x.next = 0) && decide (x.els = 0)
  else if x.kind = 4 then regsB p [x.reg, x.to] && (decide (x.args.length ≤ 6) && regsB p x.args) && blockB p x.next && decide (x.els = 0)
  else if x.kind = 6 then regsB p [x.reg, x.to] && decide (x.args.length = 0) && blockB p x.next && decide (x.els = 0)
  else false
def blkB (c : Code) (p : Prc) (b : Blk) : Bool := b.ins.all (insB c p) && finB p b.fin
def prcB (c : Code) (p : Prc) : Bool := (decide (0 ≤ p.params) && decide (p.params ≤ 6) && decide (0 ≤ p.holds) && decide (p.holds ≤ 1000) && decide (p.params ≤ p.regs) && decide (0 < p.blocks.length)) && p.blocks.all (blkB c p)
def manyB : List Blk → Nat → Nat
  | [], n => n
  | b :: l, n => if n + 1 + b.ins.length > 4096 then n + 1 + b.ins.length else manyB l (n + 1 + b.ins.length)
def manyP : List Prc → Nat → Option Nat
  | [], n => some n
  | p :: l, n => if p.regs > 2000 ∨ manyB p.blocks n > 4096 then none else manyP l (manyB p.blocks n)
def chk (c : Code) : Int :=
  if manyP c 0 = none ∨ c.length > 300 then 151
  else if (match c with | [] => true | p :: _ => decide (p.params ≠ 0) || decide (p.holds ≠ 0)) then 150
  else if c.all (prcB c) then 0 else 150
structure Fr where
  proc : Nat
  regs : List Hp.V
  cl : Nat
  to : Nat
  next : Nat
structure Cl where
  key : Nat
  proc : Nat
  held : List Hp.V
  kont : Bool
  frs : List Fr
structure St where
  T : List Hp.Th
  cls : List Cl
  input : List UInt8
  out : List UInt8
  winders : Hp.V
  e : Int
  proc : Nat
  regs : List Hp.V
  cl : Nat
  block : Nat
  pos : Nat
  frs : List Fr
  done : Bool
  told : Hp.V
def vals (regs : List Hp.V) (l : List Int) : List Hp.V := l.map fun r => regs.getD r.toNat Hp.none
def look (C : List Cl) (k : Int) : Option Cl := C.find? fun c => decide ((c.key : Int) = k)
def find (C : List Cl) (v : Hp.V) : Option Cl := if v.kind = 8 then look C v.int else none
def St.setR (s : St) (r : Int) (v : Hp.V) : St := { s with regs := s.regs.set r.toNat v }
def St.made (s : St) (proc : Nat) (held : List Hp.V) (kont : Bool) (frs : List Fr) : St := { s with T := s.T ++ [⟨4, []⟩], cls := s.cls ++ [⟨s.T.length, proc, held, kont, frs⟩] }
def St.newV (s : St) : Hp.V := ⟨8, s.T.length, ⟨#[]⟩⟩
def St.held (s : St) : List Hp.V := match look s.cls s.cl with | some k => k.held | none => []
def prim (s : St) (p : ByteArray) (a : List Hp.V) : Hp.V × St :=
  if p = sRead then (match s.input with | [] => (⟨6, 0, ⟨#[]⟩⟩, s) | b :: l => (⟨1, b.toNat, ⟨#[]⟩⟩, { s with input := l }))
  else if p = sWrite then
    (Hp.void, if (a.getD 0 Hp.none).kind ≠ 1 then { s with e := 80 } else if (a.getD 0 Hp.none).int < 0 ∨ 255 < (a.getD 0 Hp.none).int then { s with e := 83 } else { s with out := s.out ++ [UInt8.ofNat (a.getD 0 Hp.none).int.toNat] })
  else if p = sError then (Hp.void, { s with e := 92 })
  else if p = sWinders then (s.winders, s)
  else if p = sWind then (Hp.void, { s with winders := a.getD 0 Hp.none })
  else ((Hp.doF s.T p a).1, { s with T := (Hp.doF s.T p a).2.2, e := (Hp.doF s.T p a).2.1 })
def tied (C : List Cl) (k : Nat) (i : Nat) (v : Hp.V) : List Cl := C.map fun c => if c.key = k then { c with held := c.held.set i v } else c
def doI (s : St) (x : Ins) : St :=
  if x.op = sConst then s.setR x.to (constF x.const).1
  else if x.op = sMove then s.setR x.to ((vals s.regs x.args).getD 0 Hp.none)
  else if x.op = sHeld then s.setR x.to (s.held.getD x.num.toNat Hp.none)
  else if x.op = sClosure then (s.made x.num.toNat (vals s.regs x.args) false []).setR x.to s.newV
  else if x.op = sTie then (match find s.cls ((vals s.regs x.args).getD 0 Hp.none) with
    | none => { s with e := 80 }
    | some k => if (k.held.length : Int) ≤ x.num then { s with e := 80 } else { s with cls := tied s.cls k.key x.num.toNat ((vals s.regs x.args).getD 1 Hp.none) })
  else if (prim s x.op (vals s.regs x.args)).2.e = 0 then (prim s x.op (vals s.regs x.args)).2.setR x.to (prim s x.op (vals s.regs x.args)).1 else (prim s x.op (vals s.regs x.args)).2
def tell (s : St) (v : Hp.V) : St := match s.frs with
  | [] => { s with done := true, told := v }
  | f :: fs => { s with proc := f.proc, cl := f.cl, block := f.next, pos := 0, frs := fs, regs := f.regs.set f.to v }
def unset : Hp.V := ⟨7, 0, ⟨#[]⟩⟩
def call (c : Code) (s : St) (v : Hp.V) (a : List Hp.V) : St := match find s.cls v with
  | none => { s with e := 90 }
  | some k =>
    if k.kont = true ∧ a.length = 1 then tell { s with frs := k.frs } (a.getD 0 Hp.none)
    else match c[k.proc]? with
      | none => { s with e := 91 }
      | some p => if k.kont = true ∨ (a.length : Int) ≠ p.params then { s with e := 91 } else { s with proc := k.proc, cl := k.key, block := 0, pos := 0, regs := a ++ List.replicate (p.regs.toNat - a.length) unset }
def push (s : St) (x : Fin) : St := { s with frs := ⟨s.proc, s.regs, s.cl, x.to.toNat, x.next.toNat⟩ :: s.frs }
def endB (c : Code) (s : St) (x : Fin) : St :=
  if x.kind = 0 then { s with block := x.next.toNat, pos := 0 }
  else if x.kind = 1 then { s with block := if s.regs.getD x.reg.toNat Hp.none = Hp.none then x.els.toNat else x.next.toNat, pos := 0 }
  else if x.kind = 2 then tell s (s.regs.getD x.reg.toNat Hp.none)
  else if x.kind = 3 then call c s (s.regs.getD x.reg.toNat Hp.none) (vals s.regs x.args)
  else if x.kind = 4 then call c (push s x) (s.regs.getD x.reg.toNat Hp.none) (vals s.regs x.args)
  else if x.kind = 5 then call c (s.made 0 [] true s.frs) (s.regs.getD x.reg.toNat Hp.none) [s.newV]
  else call c ((push s x).made 0 [] true (push s x).frs) (s.regs.getD x.reg.toNat Hp.none) [s.newV]
def blkAt (c : Code) (s : St) : Option Blk := match c[s.proc]? with | some p => p.blocks[s.block]? | none => none
def step (c : Code) (s : St) : St := match blkAt c s with
  | none => s
  | some b => match b.ins[s.pos]? with
    | some x => doI { s with pos := s.pos + 1 } x
    | none => endB c s b.fin
def go (c : Code) : Nat → St → St × Nat
  | 0, s => if s.e = 0 ∧ s.done = false then ({ s with e := 93 }, 0) else (s, 0)
  | n + 1, s => if s.e = 0 ∧ s.done = false then go c n (step c s) else (s, n + 1)
def start0 (input : List UInt8) : St := ⟨[], [], input, [], ⟨4, 0, ⟨#[]⟩⟩, 0, 0, [], 0, 0, 0, [], false, Hp.none⟩
def start (c : Code) (input : List UInt8) : St := call c ((start0 input).made 0 [] false []) ⟨8, 0, ⟨#[]⟩⟩ []
structure Out where
  e : Int
  out : ByteArray
  shown : Option Dt
  steps : Int
def run (c : Code) (input : List UInt8) (steps : Int) : Out :=
  if steps < 0 ∨ 1000000 < steps then ⟨1, ⟨#[]⟩, none, 0⟩
  else if chk c ≠ 0 then ⟨chk c, ⟨#[]⟩, none, 0⟩
  else ⟨(go c steps.toNat (start c input)).1.e, ⟨(go c steps.toNat (start c input)).1.out.toArray⟩, if (go c steps.toNat (start c input)).1.e = 0 then Hp.tellT (go c steps.toNat (start c input)).1.T (go c steps.toNat (start c input)).1.told else none, steps - (go c steps.toNat (start c input)).2⟩
end Vm
end Go.Proofs.Ytalfnaielhbocaa
namespace Go.Proofs.Ytalfnaielhbocaa
open Go.RowKit
set_option linter.unusedVariables false
set_option linter.unusedSimpArgs false
namespace Vm
abbrev Tx (l : List Hp.V) : Prop := ∀ v ∈ l, v.text.size ≤ maxLen
theorem Tx.getD {l : List Hp.V} (h : Tx l) (k : Nat) : (l.getD k Hp.none).text.size ≤ maxLen := Hp.getD_text h k
theorem Tx.set {l : List Hp.V} (h : Tx l) (k : Nat) {v : Hp.V} (hv : v.text.size ≤ maxLen) : Tx (l.set k v) := fun x hx => by
  rcases List.mem_or_eq_of_mem_set hx with e | e
  · exact h x e
  · exact e ▸ hv
theorem Tx.vals {l : List Hp.V} (h : Tx l) (a : List Int) : Tx (vals l a) := fun x hx => by
  unfold Vm.vals at hx
  obtain ⟨r, _, rfl⟩ := List.mem_map.1 hx
  exact h.getD _
theorem vals_length (l : List Hp.V) (a : List Int) : (vals l a).length = a.length := by simp [vals]
def Kn (c : Code) (C : List Cl) (i proc : Nat) : Prop := ∃ k p, look C i = some k ∧ k.kont = false ∧ k.proc = proc ∧ c[proc]? = some p ∧ (k.held.length : Int) = p.holds
theorem look_snoc {C : List Cl} {i : Int} {k : Cl} (h : look C i = some k) (x : Cl) : look (C ++ [x]) i = some k := by
  unfold look at *
  rw [List.find?_append, h]
  rfl
theorem look_tied {C : List Cl} {i : Int} (q j : Nat) (v : Hp.V) : look (tied C q j v) i = (look C i).map fun c => if c.key = q then { c with held := c.held.set j v } else c := by
  induction C with
  | nil => rfl
  | cons x C ih =>
    unfold look tied at *
    rw [List.map_cons, List.find?_cons, List.find?_cons, ih]
    have e : (if x.key = q then { x with held := x.held.set j v } else x).key = x.key := by split <;> rfl
    rw [e]
    split
    · rfl
    · rfl
theorem look_mem' {C : List Cl} {k : Int} {c : Cl} (h : look C k = some c) : c ∈ C ∧ (c.key : Int) = k := by
  unfold look at h
  exact ⟨List.mem_of_find?_eq_some h, by simpa using List.find?_some h⟩
theorem Kn.snoc {c : Code} {C : List Cl} {i proc : Nat} (h : Kn c C i proc) (x : Cl) : Kn c (C ++ [x]) i proc := by
  obtain ⟨k, p, h, r⟩ := h
  exact ⟨k, p, look_snoc h x, r⟩
theorem Kn.tied {c : Code} {C : List Cl} {i proc : Nat} (h : Kn c C i proc) (q j : Nat) (v : Hp.V) : Kn c (tied C q j v) i proc := by
  obtain ⟨k, p, h, h2, h3, h4, h5⟩ := h
  refine ⟨_, p, by rw [look_tied, h]; rfl, ?_, ?_, h4, ?_⟩
  · dsimp only; split <;> exact h2
  · dsimp only; split <;> exact h3
  · dsimp only
    split
    · rw [List.length_set]; exact h5
    · exact h5
structure FrOk (c : Code) (C : List Cl) (f : Fr) : Prop where
  at' : ∃ p b, c[f.proc]? = some p ∧ p.blocks[f.next]? = some b ∧ (f.regs.length : Int) = p.regs
  to : f.to < f.regs.length
  cl : Kn c C f.cl f.proc
  tx : Tx f.regs
structure ClOk (c : Code) (C : List Cl) (k : Cl) : Prop where
  kn : k.kont = false → ∃ p, c[k.proc]? = some p ∧ (k.held.length : Int) = p.holds
  tx : Tx k.held
  frs : ∀ f ∈ k.frs, FrOk c C f
theorem FrOk.snoc {c : Code} {C : List Cl} {f : Fr} (h : FrOk c C f) (x : Cl) : FrOk c (C ++ [x]) f := ⟨h.at', h.to, h.cl.snoc x, h.tx⟩
theorem FrOk.tied {c : Code} {C : List Cl} {f : Fr} (h : FrOk c C f) (q j : Nat) (v : Hp.V) : FrOk c (tied C q j v) f := ⟨h.at', h.to, h.cl.tied q j v, h.tx⟩
structure Mo (c : Code) (n : Nat) (s : St) : Prop where
  good : Hp.Good n s.T
  wf : Hp.WfT s.T
  frs : ∀ f ∈ s.frs, FrOk c s.cls f
  cls : ∀ k ∈ s.cls, k.key < s.T.length ∧ ClOk c s.cls k
  win : s.winders.text.size ≤ maxLen
  told : s.told.text.size ≤ maxLen
  out : s.out.length ≤ n
structure Cu (c : Code) (s : St) : Prop where
  at' : ∃ p b, c[s.proc]? = some p ∧ p.blocks[s.block]? = some b ∧ s.pos ≤ b.ins.length ∧ (s.regs.length : Int) = p.regs
  cl : Kn c s.cls s.cl s.proc
  tx : Tx s.regs
structure CodeOk (c : Code) : Prop where
  all : ∀ p ∈ c, prcB c p = true
  regs : ∀ p ∈ c, p.regs ≤ 2000
  head : ∃ p l, c = p :: l ∧ p.params = 0 ∧ p.holds = 0
  fit : ∀ p ∈ c, ∀ b ∈ p.blocks, ∀ x ∈ b.ins, Dt.Fit x.const
  few : ∀ p ∈ c, ∀ b ∈ p.blocks, b.ins.length ≤ 4096
theorem Mo.mono {c : Code} {n k : Nat} {s : St} (h : Mo c n s) (hn : n ≤ k) : Mo c k s := ⟨h.good.mono hn, h.wf, h.frs, h.cls, h.win, h.told, Nat.le_trans h.out hn⟩
theorem Kn.lt {c : Code} {n : Nat} {s : St} {i proc : Nat} (hm : Mo c n s) (h : Kn c s.cls i proc) : i < s.T.length := by
  obtain ⟨k, p, h, _⟩ := h
  obtain ⟨h1, h2⟩ := look_mem' h
  have := (hm.cls k h1).1
  omega
theorem prcB_facts {c : Code} {p : Prc} (h : prcB c p = true) : 0 ≤ p.params ∧ p.params ≤ 6 ∧ 0 ≤ p.holds ∧ p.holds ≤ 1000 ∧ p.params ≤ p.regs ∧ 0 < p.blocks.length ∧ ∀ b ∈ p.blocks, (∀ x ∈ b.ins, insB c p x = true) ∧ finB p b.fin = true := by
  unfold prcB at h
  simp only [Bool.and_eq_true, decide_eq_true_eq, List.all_eq_true] at h
  obtain ⟨⟨⟨⟨⟨⟨h1, h2⟩, h3⟩, h4⟩, h5⟩, h6⟩, h7⟩ := h
  refine ⟨h1, h2, h3, h4, h5, h6, fun b hb => ?_⟩
  have := h7 b hb
  unfold blkB at this
  simpa only [Bool.and_eq_true, List.all_eq_true] using this
theorem tell_ok {c : Code} {n : Nat} {s : St} {v : Hp.V} (h : Mo c n s) (hv : v.text.size ≤ maxLen) : Mo c n (tell s v) ∧ ((tell s v).done = false → s.done = false → Cu c (tell s v)) := by
  unfold tell
  cases hf : s.frs with
  | nil => exact ⟨⟨h.good, h.wf, (fun f e => nomatch e), h.cls, h.win, hv, h.out⟩, fun e => by simp at e⟩
  | cons f fs =>
    have hfo := h.frs f (by rw [hf]; exact List.mem_cons_self ..)
    refine ⟨⟨h.good, h.wf, fun g hg => h.frs g (by rw [hf]; exact List.mem_cons_of_mem _ hg), h.cls, h.win, h.told, h.out⟩, fun _ _ => ?_⟩
    obtain ⟨p, b, h1, h2, h3⟩ := hfo.at'
    exact ⟨⟨p, b, h1, h2, Nat.zero_le _, by simpa using h3⟩, hfo.cl, hfo.tx.set _ hv⟩
theorem call_ok {c : Code} {n : Nat} {s : St} {v : Hp.V} {a : List Hp.V} (hc : CodeOk c) (h : Mo c n s) (ha : Tx a) : Mo c n (call c s v a) ∧ ((call c s v a).e = 0 → (call c s v a).done = false → s.done = false → Cu c (call c s v a)) := by
  unfold call
  cases hf : find s.cls v with
  | none => exact ⟨⟨h.good, h.wf, h.frs, h.cls, h.win, h.told, h.out⟩, fun e => by simp at e⟩
  | some k =>
    unfold find at hf
    split at hf
    case isFalse => cases hf
    obtain ⟨hm, hk⟩ := look_mem' hf
    obtain ⟨hk1, hk2⟩ := h.cls k hm
    dsimp only
    split
    · have := tell_ok (s := { s with frs := k.frs }) (v := a.getD 0 Hp.none) (c := c) (n := n) ⟨h.good, h.wf, hk2.frs, h.cls, h.win, h.told, h.out⟩ (ha.getD 0)
      exact ⟨this.1, fun _ e2 e3 => this.2 e2 e3⟩
    · cases hp : c[k.proc]? with
      | none => exact ⟨⟨h.good, h.wf, h.frs, h.cls, h.win, h.told, h.out⟩, fun e => by simp at e⟩
      | some p =>
        dsimp only
        split
        · exact ⟨⟨h.good, h.wf, h.frs, h.cls, h.win, h.told, h.out⟩, fun e => by simp at e⟩
        · rename_i hkp
          have hk0 : k.kont = false := by cases e : k.kont with
            | false => rfl
            | true => exact absurd (Or.inl e) hkp
          have hal : (a.length : Int) = p.params := Decidable.byContradiction fun e => hkp (.inr e)
          have hpf := prcB_facts (hc.all p (List.mem_of_getElem? hp))
          refine ⟨⟨h.good, h.wf, h.frs, h.cls, h.win, h.told, h.out⟩, fun _ _ _ => ⟨⟨p, p.blocks[0]'hpf.2.2.2.2.2.1, hp, List.getElem?_eq_getElem _, Nat.zero_le _, ?_⟩, ?_, ?_⟩⟩
          · rw [List.length_append, List.length_replicate]; omega
          · obtain ⟨p', e1, e2⟩ := hk2.kn hk0
            exact ⟨k, p', by rw [hk]; exact hf, hk0, rfl, e1, e2⟩
          · intro x hx
            rcases List.mem_append.1 hx with e | e
            · exact ha x e
            · rw [(List.mem_replicate.1 e).2]; exact Nat.zero_le _
theorem made_ok {c : Code} {n : Nat} {s : St} {proc : Nat} {held : List Hp.V} {kont : Bool} {frs : List Fr} (h : Mo c n s) (hk : ClOk c s.cls ⟨s.T.length, proc, held, kont, frs⟩) : Mo c (n + 1) (s.made proc held kont frs) := by
  have hw : Hp.WfT (s.T ++ [⟨4, []⟩]) := Hp.wf_add h.wf ⟨by decide, by decide, by decide, Nat.zero_le _, fun p hp => by cases hp⟩
  refine ⟨⟨?_, fun t ht => ?_, fun t ht => ?_⟩, hw, fun f hf => (h.frs f hf).snoc _, fun k hk' => ?_, h.win, h.told, Nat.le_succ_of_le h.out⟩
  · have := h.good.len
    simp [St.made]; omega
  · rcases List.mem_append.1 ht with e | e
    · exact h.good.few t e
    · rw [List.mem_singleton] at e; rw [e]; exact Nat.zero_le _
  · rcases List.mem_append.1 ht with e | e
    · exact h.good.text t e
    · rw [List.mem_singleton] at e; rw [e]; intro p hp; cases hp
  · have hl : (s.made proc held kont frs).T.length = s.T.length + 1 := by simp [St.made]
    rw [hl]
    rcases List.mem_append.1 hk' with e | e
    · obtain ⟨h1, h2⟩ := h.cls k e
      exact ⟨by omega, h2.kn, h2.tx, fun f hf => (h2.frs f hf).snoc _⟩
    · rw [List.mem_singleton] at e
      subst e
      exact ⟨by simp, hk.kn, hk.tx, fun f hf => (hk.frs f hf).snoc _⟩
theorem made_cu {c : Code} {s : St} {proc : Nat} {held : List Hp.V} {kont : Bool} {frs : List Fr} (h : Cu c s) : Cu c (s.made proc held kont frs) := ⟨h.at', h.cl.snoc _, h.tx⟩
theorem setR_cu {c : Code} {s : St} {r : Int} {v : Hp.V} (h : Cu c s) (hv : v.text.size ≤ maxLen) : Cu c (s.setR r v) := by
  obtain ⟨p, b, h1, h2, h3, h4⟩ := h.at'
  exact ⟨⟨p, b, h1, h2, h3, by simpa [St.setR] using h4⟩, h.cl, h.tx.set _ hv⟩
theorem setR_mo {c : Code} {n : Nat} {s : St} {r : Int} {v : Hp.V} (h : Mo c n s) : Mo c n (s.setR r v) := ⟨h.good, h.wf, h.frs, h.cls, h.win, h.told, h.out⟩
theorem putF_len (T : List Hp.Th) (v : Hp.V) (i : Int) (x : Hp.V) : T.length ≤ (Hp.putF T v i x).2.2.length := by
  unfold Hp.putF
  split <;> simp
theorem addF_len (T : List Hp.Th) (t : Hp.Th) : T.length ≤ (Hp.addF T t).2.2.length := by simp [Hp.addF]
theorem fillF_len (T : List Hp.Th) (k n : Int) (v : Hp.V) : T.length ≤ (Hp.fillF T k n v).2.2.length := by
  unfold Hp.fillF
  split
  · exact Nat.le_refl _
  · exact addF_len _ _
theorem getF_len (T : List Hp.Th) (v : Hp.V) (i : Int) : T.length ≤ (Hp.getF T v i).2.2.length := by
  unfold Hp.getF
  split <;> exact Nat.le_refl _
theorem actF_len (T : List Hp.Th) (i : Nat) (a b c : Hp.V) (l : List Hp.V) : T.length ≤ (Hp.actF T i a b c l).2.2.length := by
  unfold Hp.actF
  split <;> first
    | exact Nat.le_refl _
    | exact putF_len _ _ _ _
    | exact addF_len _ _
    | exact fillF_len _ _ _ _
    | exact getF_len _ _ _
    | (unfold Hp.sayF; exact Nat.le_refl _)
    | (split <;> first | exact Nat.le_refl _ | exact putF_len _ _ _ _ | exact addF_len _ _ | exact fillF_len _ _ _ _ | exact getF_len _ _ _)
theorem doF_len (T : List Hp.Th) (p : ByteArray) (l : List Hp.V) : T.length ≤ (Hp.doF T p l).2.2.length := by
  unfold Hp.doF
  split
  · split
    · exact Nat.le_refl _
    · split
      · exact Nat.le_refl _
      · split
        · exact Nat.le_refl _
        · exact actF_len _ _ _ _ _ _
  · exact Nat.le_refl _
theorem prim_ok {c : Code} {n : Nat} {s : St} {p : ByteArray} {a : List Hp.V} (h : Mo c n s) (ha : Tx a) (hl : a.length ≤ 1000) : Mo c (n + 1) (prim s p a).2 ∧ (prim s p a).1.text.size ≤ maxLen := by
  have h1 := h.mono (Nat.le_succ n)
  unfold prim
  split
  · split
    · exact ⟨h1, Nat.zero_le _⟩
    · exact ⟨⟨h1.good, h1.wf, h1.frs, h1.cls, h1.win, h1.told, h1.out⟩, Nat.zero_le _⟩
  · split
    · refine ⟨?_, Nat.zero_le _⟩
      dsimp only
      split
      · exact ⟨h1.good, h1.wf, h1.frs, h1.cls, h1.win, h1.told, h1.out⟩
      · split
        · exact ⟨h1.good, h1.wf, h1.frs, h1.cls, h1.win, h1.told, h1.out⟩
        · refine ⟨h1.good, h1.wf, h1.frs, h1.cls, h1.win, h1.told, ?_⟩
          have := h.out
          simp; omega
    · split
      · exact ⟨⟨h1.good, h1.wf, h1.frs, h1.cls, h1.win, h1.told, h1.out⟩, Nat.zero_le _⟩
      · split
        · exact ⟨h1, h.win⟩
        · split
          · exact ⟨⟨h1.good, h1.wf, h1.frs, h1.cls, ha.getD 0, h1.told, h1.out⟩, Nat.zero_le _⟩
          · have hg := Hp.good_do h.good p a ha hl
            have hw := Hp.wf_do h.wf p a hl
            have hln := doF_len s.T p a
            exact ⟨⟨hg.1, hw, h.frs, fun k hk => ⟨Nat.lt_of_lt_of_le (h.cls k hk).1 hln, (h.cls k hk).2⟩, h.win, h.told, Nat.le_succ_of_le h.out⟩, hg.2⟩
theorem prim_same (s : St) (p : ByteArray) (a : List Hp.V) : (prim s p a).2.cls = s.cls ∧ (prim s p a).2.proc = s.proc ∧ (prim s p a).2.regs = s.regs ∧ (prim s p a).2.cl = s.cl ∧ (prim s p a).2.block = s.block ∧ (prim s p a).2.pos = s.pos ∧ (prim s p a).2.frs = s.frs ∧ (prim s p a).2.done = s.done ∧ (prim s p a).2.told = s.told := by
  unfold prim
  split
  · split <;> exact ⟨rfl, rfl, rfl, rfl, rfl, rfl, rfl, rfl, rfl⟩
  · split
    · dsimp only
      split
      · exact ⟨rfl, rfl, rfl, rfl, rfl, rfl, rfl, rfl, rfl⟩
      · split <;> exact ⟨rfl, rfl, rfl, rfl, rfl, rfl, rfl, rfl, rfl⟩
    · split
      · exact ⟨rfl, rfl, rfl, rfl, rfl, rfl, rfl, rfl, rfl⟩
      · split
        · exact ⟨rfl, rfl, rfl, rfl, rfl, rfl, rfl, rfl, rfl⟩
        · split <;> exact ⟨rfl, rfl, rfl, rfl, rfl, rfl, rfl, rfl, rfl⟩
theorem prim_cu {c : Code} {s : St} {p : ByteArray} {a : List Hp.V} (h : Cu c s) : Cu c (prim s p a).2 := by
  obtain ⟨h1, h2, h3, h4, h5, h6, h7, h8, h9⟩ := prim_same s p a
  obtain ⟨⟨pr, b, e1, e2, e3, e4⟩, k, t⟩ := h
  exact ⟨⟨pr, b, by rw [h2]; exact e1, by rw [h5]; exact e2, by rw [h6]; exact e3, by rw [h3]; exact e4⟩, by rw [h1, h2, h4]; exact k, by rw [h3]; exact t⟩
theorem constF_text {d : Dt} (h : Dt.Fit d) : (constF d).1.text.size ≤ maxLen := by
  cases h with
  | mk k i t l ht hl hh =>
    unfold constF
    split
    · exact Nat.zero_le _
    · split
      · exact Nat.zero_le _
      · split
        · exact Nat.zero_le _
        · split
          · exact Nat.zero_le _
          · split
            · exact ht
            · split <;> exact Nat.zero_le _
theorem insB_facts {c : Code} {p : Prc} {x : Ins} (h : insB c p x = true) : x.op ≠ sCallcc ∧ (x.op ≠ sTie → 0 ≤ x.to ∧ x.to < p.regs) ∧ (∀ r ∈ x.args, 0 ≤ r ∧ r < p.regs) ∧
    (x.op = sMove → x.args.length = 1) ∧ (x.op = sHeld → 0 ≤ x.num ∧ x.num < p.holds) ∧ (x.op = sTie → x.args.length = 2 ∧ 0 ≤ x.num) ∧
    (x.op = sClosure → 1 ≤ x.num ∧ ∃ q, c[x.num.toNat]? = some q ∧ (x.args.length : Int) = q.holds) ∧
    (x.op ≠ sConst → x.op ≠ sMove → x.op ≠ sHeld → x.op ≠ sClosure → x.op ≠ sTie → (x.args.length : Int) = arity x.op) := by
  have hreg : ∀ l, regsB p l = true → ∀ r ∈ l, 0 ≤ r ∧ r < p.regs := fun l hl r hr => by
    unfold regsB at hl
    rw [List.all_eq_true] at hl
    simpa using hl r hr
  have n1 : sConst ≠ sCallcc := by decide
  have n2 : sMove ≠ sCallcc := by decide
  have n3 : sHeld ≠ sCallcc := by decide
  have n4 : sClosure ≠ sCallcc := by decide
  have n5 : sTie ≠ sCallcc := by decide
  have m1 : sConst ≠ sMove := by decide
  have m2 : sConst ≠ sHeld := by decide
  have m3 : sConst ≠ sClosure := by decide
  have m4 : sConst ≠ sTie := by decide
  have m5 : sMove ≠ sHeld := by decide
  have m6 : sMove ≠ sClosure := by decide
  have m7 : sMove ≠ sTie := by decide
  have m8 : sHeld ≠ sClosure := by decide
  have m9 : sHeld ≠ sTie := by decide
  have m10 : sClosure ≠ sTie := by decide
  unfold insB at h
  by_cases e1 : x.op = sConst
  · rw [if_pos e1] at h
    simp only [Bool.and_eq_true, decide_eq_true_eq] at h
    obtain ⟨⟨⟨h1, h2⟩, h3⟩, h4⟩ := h
    have ha : x.args = [] := List.eq_nil_of_length_eq_zero h1
    refine ⟨by rw [e1]; exact n1, fun _ => hreg _ h3 _ (by simp), fun r hr => (by rw [ha] at hr; cases hr), fun e => absurd (e1.symm.trans e) m1, fun e => absurd (e1.symm.trans e) m2, fun e => absurd (e1.symm.trans e) m4, fun e => absurd (e1.symm.trans e) m3, fun e => absurd e1 e⟩
  · rw [if_neg e1] at h
    by_cases e2 : x.op = sMove
    · rw [if_pos e2] at h
      simp only [Bool.and_eq_true, decide_eq_true_eq] at h
      obtain ⟨⟨⟨⟨h1, h2⟩, h3⟩, h4⟩, h5⟩ := h
      refine ⟨by rw [e2]; exact n2, fun _ => hreg _ h3 _ (by simp), hreg _ h4, fun _ => h1, fun e => absurd (e2.symm.trans e) m5, fun e => absurd (e2.symm.trans e) m7, fun e => absurd (e2.symm.trans e) m6, fun _ e => absurd e2 e⟩
    · rw [if_neg e2] at h
      by_cases e3 : x.op = sHeld
      · rw [if_pos e3] at h
        simp only [Bool.and_eq_true, decide_eq_true_eq] at h
        obtain ⟨⟨⟨⟨h1, h2⟩, h3⟩, h4⟩, h5⟩ := h
        refine ⟨by rw [e3]; exact n3, fun _ => hreg _ h3 _ (by simp), hreg _ h4, fun e => absurd e e2, fun _ => h2, fun e => absurd (e3.symm.trans e) m9, fun e => absurd (e3.symm.trans e) m8, fun _ _ e => absurd e3 e⟩
      · rw [if_neg e3] at h
        by_cases e4 : x.op = sClosure
        · rw [if_pos e4] at h
          simp only [Bool.and_eq_true, decide_eq_true_eq] at h
          obtain ⟨⟨⟨⟨h1, h2⟩, h3⟩, h4⟩, h5⟩ := h
          refine ⟨by rw [e4]; exact n4, fun _ => hreg _ h3 _ (by simp), hreg _ h4, fun e => absurd e e2, fun e => absurd e e3, fun e => absurd (e4.symm.trans e) m10, fun _ => ⟨h1.1, ?_⟩, fun _ _ _ e => absurd e4 e⟩
          cases hq : c[x.num.toNat]? with
          | none => rw [hq] at h2; simp at h2
          | some q => rw [hq] at h2; exact ⟨q, rfl, by simpa using h2⟩
        · rw [if_neg e4] at h
          by_cases e5 : x.op = sTie
          · rw [if_pos e5] at h
            simp only [Bool.and_eq_true, decide_eq_true_eq] at h
            obtain ⟨⟨⟨⟨h1, h2⟩, h3⟩, h4⟩, h5⟩ := h
            exact ⟨by rw [e5]; exact n5, fun e => absurd e5 e, hreg _ h4, fun e => absurd e e2, fun e => absurd e e3, fun _ => ⟨h1, h2⟩, fun e => absurd e e4, fun _ _ _ _ e => absurd e5 e⟩
          · rw [if_neg e5] at h
            by_cases e6 : x.op = sCallcc
            · rw [if_pos e6] at h; cases h
            · rw [if_neg e6] at h
              simp only [Bool.and_eq_true, decide_eq_true_eq] at h
              obtain ⟨⟨⟨⟨h1, h2⟩, h3⟩, h4⟩, h5⟩ := h
              exact ⟨e6, fun _ => hreg _ h3 _ (by simp), hreg _ h4, fun e => absurd e e2, fun e => absurd e e3, fun e => absurd e e5, fun e => absurd e e4, fun _ _ _ _ _ => h1⟩
theorem arity_le (s : ByteArray) : arity s ≤ 3 := by
  unfold arity
  split
  · decide
  · split
    · decide
    · split
      · decide
      · split <;> decide
theorem insB_few {c : Code} (hc : CodeOk c) {p : Prc} {x : Ins} (h : insB c p x = true) : x.args.length ≤ 1000 := by
  obtain ⟨_, _, _, h1, h2, h3, h4, h5⟩ := insB_facts h
  by_cases e1 : x.op = sConst
  · unfold insB at h
    rw [if_pos e1] at h
    simp only [Bool.and_eq_true, decide_eq_true_eq] at h
    omega
  · by_cases e2 : x.op = sMove
    · have := h1 e2; omega
    · by_cases e3 : x.op = sHeld
      · unfold insB at h
        rw [if_neg e1, if_neg e2, if_pos e3] at h
        simp only [Bool.and_eq_true, decide_eq_true_eq] at h
        omega
      · by_cases e4 : x.op = sClosure
        · obtain ⟨_, q, hq, hl⟩ := h4 e4
          have := prcB_facts (hc.all q (List.mem_of_getElem? hq))
          omega
        · by_cases e5 : x.op = sTie
          · have := h3 e5; omega
          · have := h5 e1 e2 e3 e4 e5
            have := arity_le x.op
            omega
theorem doI_ok {c : Code} {n : Nat} {s : St} {x : Ins} {p : Prc} (hc : CodeOk c) (h : Mo c n s) (hu : Cu c s) (hp : c[s.proc]? = some p) (hx : insB c p x = true) (hf : Dt.Fit x.const) : Mo c (n + 1) (doI s x) ∧ Cu c (doI s x) := by
  have h1 := h.mono (Nat.le_succ n)
  have htx : Tx (vals s.regs x.args) := hu.tx.vals _
  have hfew := insB_few hc hx
  have hx4 := (insB_facts hx).2.2.2.2.2.2.1
  unfold doI
  split
  · exact ⟨setR_mo h1, setR_cu hu (constF_text hf)⟩
  · split
    · exact ⟨setR_mo h1, setR_cu hu (htx.getD 0)⟩
    · split
      · refine ⟨setR_mo h1, setR_cu hu ?_⟩
        obtain ⟨k, p', e1, e2, e3, e4, e5⟩ := hu.cl
        have : Tx s.held := by
          unfold St.held
          rw [e1]
          exact ((h.cls k (look_mem' e1).1).2).tx
        exact this.getD _
      · split
        · rename_i e4
          obtain ⟨_, q, hq, hl⟩ := hx4 e4
          have hk : ClOk c s.cls ⟨s.T.length, x.num.toNat, vals s.regs x.args, false, []⟩ := ⟨fun _ => ⟨q, hq, by rw [vals_length]; exact hl⟩, htx, fun f hf => by cases hf⟩
          exact ⟨setR_mo (made_ok h hk), setR_cu (made_cu hu) (Nat.zero_le _)⟩
        · split
          · split
            · exact ⟨⟨h1.good, h1.wf, h1.frs, h1.cls, h1.win, h1.told, h1.out⟩, ⟨hu.at', hu.cl, hu.tx⟩⟩
            · split
              · exact ⟨⟨h1.good, h1.wf, h1.frs, h1.cls, h1.win, h1.told, h1.out⟩, ⟨hu.at', hu.cl, hu.tx⟩⟩
              · refine ⟨⟨h1.good, h1.wf, fun f hf => (h1.frs f hf).tied _ _ _, fun k hk => ?_, h1.win, h1.told, h1.out⟩, ⟨hu.at', hu.cl.tied _ _ _, hu.tx⟩⟩
                unfold tied at hk
                obtain ⟨k0, hk0, rfl⟩ := List.mem_map.1 hk
                obtain ⟨q1, q2⟩ := h1.cls k0 hk0
                refine ⟨by split <;> exact q1, ?_⟩
                split
                · exact ⟨fun e => by rw [List.length_set]; exact q2.kn e, q2.tx.set _ (htx.getD 1), fun f hf => (q2.frs f hf).tied _ _ _⟩
                · exact ⟨q2.kn, q2.tx, fun f hf => (q2.frs f hf).tied _ _ _⟩
          · have hpr := prim_ok (p := x.op) h htx (by rw [vals_length]; exact hfew)
            split
            · exact ⟨setR_mo hpr.1, setR_cu (prim_cu hu) hpr.2⟩
            · exact ⟨hpr.1, prim_cu hu⟩
theorem finB_facts {p : Prc} {x : Fin} (h : finB p x = true) : 0 ≤ x.kind ∧ x.kind ≤ 6 ∧ (x.kind ≠ 0 → 0 ≤ x.reg ∧ x.reg < p.regs) ∧ (∀ r ∈ x.args, 0 ≤ r ∧ r < p.regs) ∧ x.args.length ≤ 6 ∧
    (x.kind = 0 ∨ x.kind = 1 ∨ x.kind = 4 ∨ x.kind = 6 → 0 ≤ x.next ∧ x.next < p.blocks.length) ∧ (x.kind = 1 → 0 ≤ x.els ∧ x.els < p.blocks.length) ∧ (x.kind = 4 ∨ x.kind = 6 → 0 ≤ x.to ∧ x.to < p.regs) := by
  have hreg : ∀ l, regsB p l = true → ∀ r ∈ l, 0 ≤ r ∧ r < p.regs := fun l hl r hr => by
    unfold regsB at hl
    rw [List.all_eq_true] at hl
    simpa using hl r hr
  have hblk : ∀ b, blockB p b = true → 0 ≤ b ∧ b < p.blocks.length := fun b hb => by
    unfold blockB at hb
    simpa using hb
  have hnil : ∀ {l : List Int}, l.length = 0 → (∀ r ∈ l, 0 ≤ r ∧ r < p.regs) ∧ l.length ≤ 6 := fun hl => by
    rw [List.eq_nil_of_length_eq_zero hl]; simp
  unfold finB at h
  split at h
  · simp only [Bool.and_eq_true, decide_eq_true_eq] at h
    obtain ⟨⟨⟨⟨h1, h2⟩, h3⟩, h4⟩, h5⟩ := h
    exact ⟨by omega, by omega, by omega, (hnil h2).1, (hnil h2).2, fun _ => hblk _ h1, by omega, by omega⟩
  · split at h
    · simp only [Bool.and_eq_true, decide_eq_true_eq] at h
      obtain ⟨⟨⟨⟨h1, h2⟩, h3⟩, h4⟩, h5⟩ := h
      exact ⟨by omega, by omega, fun _ => hreg _ h3 _ (by simp), (hnil h2).1, (hnil h2).2, fun _ => hblk _ h1, fun _ => hblk _ h4, by omega⟩
    · split at h
      · simp only [Bool.and_eq_true, decide_eq_true_eq] at h
        obtain ⟨⟨⟨⟨h1, h2⟩, h3⟩, h4⟩, h5⟩ := h
        exact ⟨by omega, by omega, fun _ => hreg _ h1 _ (by simp), (hnil h2).1, (hnil h2).2, by omega, by omega, by omega⟩
      · split at h
        · simp only [Bool.and_eq_true, decide_eq_true_eq] at h
          obtain ⟨⟨⟨⟨h1, h2⟩, h3⟩, h4⟩, h5⟩ := h
          exact ⟨by omega, by omega, fun _ => hreg _ h1 _ (by simp), hreg _ h2.2, h2.1, by omega, by omega, by omega⟩
        · split at h
          · simp only [Bool.and_eq_true, decide_eq_true_eq] at h
            obtain ⟨⟨⟨h1, h2⟩, h3⟩, h4⟩ := h
            exact ⟨by omega, by omega, fun _ => hreg _ h1 _ (by simp), hreg _ h2.2, h2.1, fun _ => hblk _ h3, by omega, fun _ => hreg _ h1 _ (by simp)⟩
          · split at h
            · simp only [Bool.and_eq_true, decide_eq_true_eq] at h
              obtain ⟨⟨⟨h1, h2⟩, h3⟩, h4⟩ := h
              exact ⟨by omega, by omega, fun _ => hreg _ h1 _ (by simp), (hnil h2).1, (hnil h2).2, fun _ => hblk _ h3, by omega, fun _ => hreg _ h1 _ (by simp)⟩
            · cases h
theorem push_ok {c : Code} {n : Nat} {s : St} {x : Fin} {p : Prc} (h : Mo c n s) (hu : Cu c s) (hp : c[s.proc]? = some p) (hx : finB p x = true) (hk : x.kind = 4 ∨ x.kind = 6) : Mo c n (push s x) := by
  obtain ⟨p', b, e1, e2, e3, e4⟩ := hu.at'
  rw [hp] at e1
  cases e1
  obtain ⟨_, _, _, _, _, f1, _, f2⟩ := finB_facts hx
  have n1 := f1 (by omega)
  have n2 := f2 hk
  refine ⟨h.good, h.wf, fun f hf => ?_, h.cls, h.win, h.told, h.out⟩
  unfold push at hf
  rcases List.mem_cons.1 hf with rfl | hf
  · exact ⟨⟨p, p.blocks[x.next.toNat]'(by omega), hp, List.getElem?_eq_getElem _, e4⟩, by dsimp only; omega, hu.cl, hu.tx⟩
  · exact h.frs f hf
theorem endB_ok {c : Code} {n : Nat} {s : St} {x : Fin} {p : Prc} (hc : CodeOk c) (h : Mo c n s) (hu : Cu c s) (hp : c[s.proc]? = some p) (hx : finB p x = true) : Mo c (n + 1) (endB c s x) ∧ ((endB c s x).e = 0 → (endB c s x).done = false → s.done = false → Cu c (endB c s x)) := by
  have h1 := h.mono (Nat.le_succ n)
  obtain ⟨f0, f0', f1, f2, f3, f4, f5, f6⟩ := finB_facts hx
  obtain ⟨p', b, e1, e2, e3, e4⟩ := hu.at'
  rw [hp] at e1
  cases e1
  have hmk : ∀ {s : St}, Mo c n s → Mo c (n + 1) (s.made 0 [] true s.frs) := fun {s} hs => made_ok hs (ClOk.mk (fun e => Bool.noConfusion e) (fun v hv => nomatch hv) hs.frs)
  have hv1 : ∀ (s : St), Tx [s.newV] := fun s v hv => by rw [List.mem_singleton] at hv; rw [hv]; exact Nat.zero_le _
  unfold endB
  split
  · have := f4 (.inl ‹_›)
    exact ⟨⟨h1.good, h1.wf, h1.frs, h1.cls, h1.win, h1.told, h1.out⟩, fun _ _ _ => ⟨⟨p, p.blocks[x.next.toNat]'(by omega), hp, List.getElem?_eq_getElem _, Nat.zero_le _, e4⟩, hu.cl, hu.tx⟩⟩
  · split
    · rename_i hk
      have q1 := f4 (.inr (.inl hk))
      have q2 := f5 hk
      refine ⟨⟨h1.good, h1.wf, h1.frs, h1.cls, h1.win, h1.told, h1.out⟩, fun _ _ _ => ?_⟩
      have hb : ∃ b', p.blocks[(if s.regs.getD x.reg.toNat Hp.none = Hp.none then x.els.toNat else x.next.toNat)]? = some b' := by
        split
        · exact ⟨_, List.getElem?_eq_getElem (by omega)⟩
        · exact ⟨_, List.getElem?_eq_getElem (by omega)⟩
      obtain ⟨b', hb⟩ := hb
      exact ⟨⟨p, b', hp, hb, Nat.zero_le _, e4⟩, hu.cl, hu.tx⟩
    · split
      · have := tell_ok h1 (hu.tx.getD x.reg.toNat)
        exact ⟨this.1, fun _ => this.2⟩
      · split
        · exact call_ok hc h1 (hu.tx.vals _)
        · split
          · rename_i hk
            exact call_ok hc (push_ok h1 hu hp hx (.inl hk)) (hu.tx.vals _)
          · split
            · exact call_ok hc (hmk h) (hv1 _)
            · exact call_ok hc (hmk (push_ok h hu hp hx (.inr (by omega)))) (hv1 _)
end Vm
end Go.Proofs.Ytalfnaielhbocaa
