/- The assembler's write. -/
import Derived.Test.YtbcpflogkniojaaQAsmGrow
import Derived.Test.YtbcpflogkniojaaQAsmNum
namespace Go.Proofs.Ytbcpflogkniojaa
open Go.RowKit
set_option linter.unusedVariables false
set_option linter.unusedSimpArgs false
theorem still_of21 {P : Program} {f : FuncId} {args : Array Value} {w : World} {v : Value} (h : Calls P f args w fun e w' => e = .returned v ∧ w = w') : Calls P f args w fun e w' => e = .returned v ∧ w' = w :=
  h.mono fun _ _ ⟨he, hm⟩ => ⟨he, hm.symm⟩
section
variable {B g lb pb mb : Nat} {L : List (Int × Value)} {al : Option Addr} {cl : Nat} {vc : Value} {l : List As.It} {bs : List Bool} {ps : List Nat} {code : List Int}
theorem number_two (w : World) (h : ASt B w g lb pb mb L (.slice al l.length cl) vc l bs ps code) (hlen : code.length ≤ 1000000000) (r n : Int) :
    Calls Try.prog 34 #[.pointer (some ⟨g, 0, none⟩), .int .i64 r, .int .i64 n, .int .i64 2] w fun e w' => e = .returned (.tuple #[]) ∧ ∃ vc', ASt B w' g lb pb mb L (.slice al l.length cl) vc' l bs ps (code ++ As.number r n 2) ∧ Below B w w' :=
  number_any w h hlen r n 2 (by omega) (by omega)
set_option maxHeartbeats 8000000 in
set_option maxRecDepth 100000 in
theorem write_0 (w : World) (h : ASt B w g lb pb mb L (.slice al l.length cl) vc l bs ps code) (hlen : l.length ≤ 65536) (hcl : code.length ≤ 1000000) (i : Nat) (x : As.It) (hx : l[i]? = some x) (hk : x.kind = 0) :
    Calls Try.prog 21 #[.pointer (some ⟨g, 0, none⟩), .int .i64 i] w fun e w' => e = .returned (.tuple #[]) ∧ ∃ vc', ASt B w' g lb pb mb L (.slice al l.length cl) vc' l bs ps (code ++ [Rs.encW x.op x.a x.b x.c x.n]) ∧ Below B w w' := by
  have hi : i < l.length := (List.getElem?_eq_some_iff.1 hx).1
  obtain ⟨bl, off, rfl, hbl, hat⟩ := h.items.at (by intro e; rw [e] at hi; simp at hi)
  obtain ⟨d0, d1, d2, d3, d4, d5, d6, d7⟩ := hat i x hx
  have c0 := h.c0
  have H := Lib.hid h
  have hlt := h.lt
  have hg1 : (0 : Int) ≤ i := by omega
  have hg2 : (i : Int) < l.length := by omega
  have hg3 : g < w.heap.size := hlt.1
  have HB : Hid (B ≤ w.heap.size) := by have := h.base; unfold Hid; omega
  rw [hk] at d0
  clear hat hx h hlt
  go_enter Try.func21, Try.ntmps21
  go_wp2_with fail
  with_reducible refine (put_any _ ((H.out.alloc' _).alloc' _) (by omega) _ _ _ _ _).mono ?_
  rintro e w1 ⟨rfl, vc1, hA, hb⟩
  have HA := Lib.hid hA
  have HB1 := Lib.hid ((((Below.refl B w).alloc HB.out _).alloc (by have := HB.out; simp; omega) _).trans hb)
  clear hA hb
  go_wp2_with fail
  go_end0
  exact ⟨rfl, vc1, HA.out, HB1.out⟩
set_option maxHeartbeats 8000000 in
set_option maxRecDepth 100000 in
theorem write_1 (w : World) (h : ASt B w g lb pb mb L (.slice al l.length cl) vc l bs ps code) (hlen : l.length ≤ 65536) (hcl : code.length ≤ 1000000) (i : Nat) (x : As.It) (hx : l[i]? = some x) (hk : x.kind = 1) :
    Calls Try.prog 21 #[.pointer (some ⟨g, 0, none⟩), .int .i64 i] w fun e w' => e = .returned (.tuple #[]) ∧ ∃ vc', ASt B w' g lb pb mb L (.slice al l.length cl) vc' l bs ps (code ++ []) ∧ Below B w w' := by
  have hi : i < l.length := (List.getElem?_eq_some_iff.1 hx).1
  obtain ⟨bl, off, rfl, hbl, hat⟩ := h.items.at (by intro e; rw [e] at hi; simp at hi)
  obtain ⟨d0, d1, d2, d3, d4, d5, d6, d7⟩ := hat i x hx
  have c0 := h.c0
  have H := Lib.hid h
  have hlt := h.lt
  have hg1 : (0 : Int) ≤ i := by omega
  have hg2 : (i : Int) < l.length := by omega
  have hg3 : g < w.heap.size := hlt.1
  have HB : Hid (B ≤ w.heap.size) := by have := h.base; unfold Hid; omega
  rw [hk] at d0
  clear hat hx h hlt
  go_enter Try.func21, Try.ntmps21
  go_wp2_with fail
  go_end0
  exact ⟨rfl, vc, by rw [List.append_nil]; exact (H.out.alloc' _).alloc' _, ((Below.refl B w).alloc HB.out _).alloc (by have := HB.out; simp; omega) _⟩
set_option maxHeartbeats 8000000 in
set_option maxRecDepth 100000 in
theorem write_2s (w : World) (h : ASt B w g lb pb mb L (.slice al l.length cl) vc l bs ps code) (hlen : l.length ≤ 65536) (hcl : code.length ≤ 1000000) (i : Nat) (x : As.It) (hx : l[i]? = some x) (hk : x.kind = 2) (t p q : Nat) (ht : As.find x.label l = some t) (hL : alook L x.label = some (.int .i64 t)) (hp : ps[i]? = some p) (hq : ps[t]? = some q) (hpb : p ≤ 262144) (hqb : q ≤ 262144) (hb : bs[i]? = some false) :
    Calls Try.prog 21 #[.pointer (some ⟨g, 0, none⟩), .int .i64 i] w fun e w' => e = .returned (.tuple #[]) ∧ ∃ vc', ASt B w' g lb pb mb L (.slice al l.length cl) vc' l bs ps (code ++ [Rs.encW x.op x.a x.b x.c ((q : Int) - p)]) ∧ Below B w w' := by
  have hi : i < l.length := (List.getElem?_eq_some_iff.1 hx).1
  obtain ⟨bl, off, rfl, hbl, hat⟩ := h.items.at (by intro e; rw [e] at hi; simp at hi)
  obtain ⟨d0, d1, d2, d3, d4, d5, d6, d7⟩ := hat i x hx
  have c0 := h.c0
  have H := Lib.hid h
  have hlt := h.lt
  have hg1 : (0 : Int) ≤ i := by omega
  have hg2 : (i : Int) < l.length := by omega
  have hg3 : g < w.heap.size := hlt.1
  have HB : Hid (B ≤ w.heap.size) := by have := h.base; unfold Hid; omega
  have c1 := h.c1
  have c3 := h.c3
  have hg4 : pb < w.heap.size := hlt.2.2
  have htl := As.find_lt ht
  have ct := h.cp hq
  have cp := h.cp hp
  have hlk := look_at ((H.out.alloc' (.cells #[.int .i64 x.kind, .int .i64 x.op, .int .i64 x.a, .int .i64 x.b, .int .i64 x.c, .int .i64 x.n, .int .i64 x.label, .int .i64 x.num] 35)).alloc' (.cells #[.int .i64 x.op, .int .i64 x.a, .int .i64 x.b, .int .i64 x.c, .int .i64 x.n] 33)).map x.label t hL
  have hgs : IntKind.i64.wrap ((q : Int) - p) = (q : Int) - p := by rw [IntKind.wrap_i64]; omega
  have hgt : IntKind.i64.wrap ((q : Int) - p - 1) = (q : Int) - p - 1 := by rw [IntKind.wrap_i64]; omega
  have hgu : IntKind.i64.wrap ((q : Int) - p + p) = (q : Int) := by rw [IntKind.wrap_i64]; omega
  have hg5 : (0 : Int) ≤ t := by omega
  have hg6 : (t : Int) < l.length := by omega
  clear ht hq hp hL
  rw [hk] at d0
  rw [hk] at hlk
  clear hat hx h hlt
  have c2 := H.out.c2
  have cb := H.out.cl hb
  have hg7 : lb < w.heap.size := H.out.lt.2.1
  clear hb
  go_enter Try.func21, Try.ntmps21
  go_wp2_with fail
  go_quiet (fail)
  go_wp2_with fail
  with_reducible refine (put_any _ (H.out.below ((below_drewN (((Below.refl w.heap.size w).alloc (Nat.le_refl _) _).alloc (by simp) _) nq).setCell (p := ⟨w.heap.size + 1, 4, none⟩) (Nat.le_succ _) _) (Nat.le_refl _)) (by omega) _ _ _ _ _).mono ?_
  rintro e w1 ⟨rfl, vc1, hA, hb⟩
  have HA := Lib.hid hA
  have HB1 := Lib.hid (((below_drewN (((Below.refl B w).alloc HB.out _).alloc (by have := HB.out; simp; omega) _) nq).setCell (p := ⟨w.heap.size + 1, 4, none⟩) (Nat.le_succ_of_le HB.out) _).trans hb)
  clear hA hb
  go_wp2_with fail
  go_end0
  exact ⟨rfl, vc1, HA.out, HB1.out⟩
set_option maxHeartbeats 8000000 in
set_option maxRecDepth 100000 in
theorem write_2l (w : World) (h : ASt B w g lb pb mb L (.slice al l.length cl) vc l bs ps code) (hlen : l.length ≤ 65536) (hcl : code.length ≤ 1000000) (i : Nat) (x : As.It) (hx : l[i]? = some x) (hk : x.kind = 2) (t p q : Nat) (ht : As.find x.label l = some t) (hL : alook L x.label = some (.int .i64 t)) (hp : ps[i]? = some p) (hq : ps[t]? = some q) (hpb : p ≤ 262144) (hqb : q ≤ 262144) (hb : bs[i]? = some true) :
    Calls Try.prog 21 #[.pointer (some ⟨g, 0, none⟩), .int .i64 i] w fun e w' => e = .returned (.tuple #[]) ∧ ∃ vc', ASt B w' g lb pb mb L (.slice al l.length cl) vc' l bs ps (code ++ [Rs.encW (As.opposite x.op) x.a x.b 0 2, Rs.encW 28 0 0 0 ((q : Int) - p - 1)]) ∧ Below B w w' := by
  have hi : i < l.length := (List.getElem?_eq_some_iff.1 hx).1
  obtain ⟨bl, off, rfl, hbl, hat⟩ := h.items.at (by intro e; rw [e] at hi; simp at hi)
  obtain ⟨d0, d1, d2, d3, d4, d5, d6, d7⟩ := hat i x hx
  have c0 := h.c0
  have H := Lib.hid h
  have hlt := h.lt
  have hg1 : (0 : Int) ≤ i := by omega
  have hg2 : (i : Int) < l.length := by omega
  have hg3 : g < w.heap.size := hlt.1
  have HB : Hid (B ≤ w.heap.size) := by have := h.base; unfold Hid; omega
  have c1 := h.c1
  have c3 := h.c3
  have hg4 : pb < w.heap.size := hlt.2.2
  have htl := As.find_lt ht
  have ct := h.cp hq
  have cp := h.cp hp
  have hlk := look_at ((H.out.alloc' (.cells #[.int .i64 x.kind, .int .i64 x.op, .int .i64 x.a, .int .i64 x.b, .int .i64 x.c, .int .i64 x.n, .int .i64 x.label, .int .i64 x.num] 35)).alloc' (.cells #[.int .i64 x.op, .int .i64 x.a, .int .i64 x.b, .int .i64 x.c, .int .i64 x.n] 33)).map x.label t hL
  have hgs : IntKind.i64.wrap ((q : Int) - p) = (q : Int) - p := by rw [IntKind.wrap_i64]; omega
  have hgt : IntKind.i64.wrap ((q : Int) - p - 1) = (q : Int) - p - 1 := by rw [IntKind.wrap_i64]; omega
  have hgu : IntKind.i64.wrap ((q : Int) - p + p) = (q : Int) := by rw [IntKind.wrap_i64]; omega
  have hg5 : (0 : Int) ≤ t := by omega
  have hg6 : (t : Int) < l.length := by omega
  clear ht hq hp hL
  rw [hk] at d0
  rw [hk] at hlk
  clear hat hx h hlt
  have c2 := H.out.c2
  have cb := H.out.cl hb
  have hg7 : lb < w.heap.size := H.out.lt.2.1
  clear hb
  go_enter Try.func21, Try.ntmps21
  go_wp2_with fail
  go_quiet (fail)
  go_wp2_with fail
  refine wp_still_tail 9 (by kernel_rfl) (by kernel_rfl) ?_
  simp only [List.take_succ_cons, List.take_zero, List.drop_succ_cons, List.drop_zero]
  repeat still_step
  still_call (still_of21 (opposite_any _ _))
  repeat still_step
  refine wpStill_nil ?_
  show wpList _ _ _ _ _ _
  go_wp2_with fail
  with_reducible refine (put_any _ (H.out.below (below_drewN (((Below.refl w.heap.size w).alloc (Nat.le_refl _) _).alloc (by simp) _) (nq + 1)) (Nat.le_refl _)) (by omega) _ _ _ _ _).mono ?_
  rintro e w1 ⟨rfl, vc1, hA, hb⟩
  have HA := Lib.hid hA
  have HB1 := Lib.hid ((below_drewN (((Below.refl B w).alloc HB.out _).alloc (by have := HB.out; simp; omega) _) (nq + 1)).trans hb)
  clear hA hb
  go_wp2_with fail
  with_reducible refine (put_any _ HA.out (by simp; omega) _ _ _ _ _).mono ?_
  rintro e w2 ⟨rfl, vc2, hA2, hb2⟩
  have HA2 := Lib.hid hA2
  have HB2 := Lib.hid (HB1.out.trans hb2)
  clear hA2 hb2
  go_wp2_with fail
  refine bodyPost_ret (results_none rfl _ _ _) rfl ?_
  refine ⟨rfl, vc2, ?_, HB2.out⟩
  have e := HA2.out
  rw [List.append_assoc] at e
  exact e
set_option maxHeartbeats 8000000 in
set_option maxRecDepth 100000 in
theorem write_3 (w : World) (h : ASt B w g lb pb mb L (.slice al l.length cl) vc l bs ps code) (hlen : l.length ≤ 65536) (hcl : code.length ≤ 1000000) (i : Nat) (x : As.It) (hx : l[i]? = some x) (hk : x.kind = 3) (t p q : Nat) (ht : As.find x.label l = some t) (hL : alook L x.label = some (.int .i64 t)) (hp : ps[i]? = some p) (hq : ps[t]? = some q) (hpb : p ≤ 262144) (hqb : q ≤ 262144) :
    Calls Try.prog 21 #[.pointer (some ⟨g, 0, none⟩), .int .i64 i] w fun e w' => e = .returned (.tuple #[]) ∧ ∃ vc', ASt B w' g lb pb mb L (.slice al l.length cl) vc' l bs ps (code ++ [Rs.encW x.op x.a x.b x.c ((q : Int) - p)]) ∧ Below B w w' := by
  have hi : i < l.length := (List.getElem?_eq_some_iff.1 hx).1
  obtain ⟨bl, off, rfl, hbl, hat⟩ := h.items.at (by intro e; rw [e] at hi; simp at hi)
  obtain ⟨d0, d1, d2, d3, d4, d5, d6, d7⟩ := hat i x hx
  have c0 := h.c0
  have H := Lib.hid h
  have hlt := h.lt
  have hg1 : (0 : Int) ≤ i := by omega
  have hg2 : (i : Int) < l.length := by omega
  have hg3 : g < w.heap.size := hlt.1
  have HB : Hid (B ≤ w.heap.size) := by have := h.base; unfold Hid; omega
  have c1 := h.c1
  have c3 := h.c3
  have hg4 : pb < w.heap.size := hlt.2.2
  have htl := As.find_lt ht
  have ct := h.cp hq
  have cp := h.cp hp
  have hlk := look_at ((H.out.alloc' (.cells #[.int .i64 x.kind, .int .i64 x.op, .int .i64 x.a, .int .i64 x.b, .int .i64 x.c, .int .i64 x.n, .int .i64 x.label, .int .i64 x.num] 35)).alloc' (.cells #[.int .i64 x.op, .int .i64 x.a, .int .i64 x.b, .int .i64 x.c, .int .i64 x.n] 33)).map x.label t hL
  have hgs : IntKind.i64.wrap ((q : Int) - p) = (q : Int) - p := by rw [IntKind.wrap_i64]; omega
  have hgt : IntKind.i64.wrap ((q : Int) - p - 1) = (q : Int) - p - 1 := by rw [IntKind.wrap_i64]; omega
  have hgu : IntKind.i64.wrap ((q : Int) - p + p) = (q : Int) := by rw [IntKind.wrap_i64]; omega
  have hg5 : (0 : Int) ≤ t := by omega
  have hg6 : (t : Int) < l.length := by omega
  clear ht hq hp hL
  rw [hk] at d0
  rw [hk] at hlk
  clear hat hx h hlt
  go_enter Try.func21, Try.ntmps21
  go_wp2_with fail
  go_quiet (fail)
  go_wp2_with fail
  with_reducible refine (put_any _ (H.out.below ((below_drewN (((Below.refl w.heap.size w).alloc (Nat.le_refl _) _).alloc (by simp) _) nq).setCell (p := ⟨w.heap.size + 1, 4, none⟩) (Nat.le_succ _) _) (Nat.le_refl _)) (by omega) _ _ _ _ _).mono ?_
  rintro e w1 ⟨rfl, vc1, hA, hb⟩
  have HA := Lib.hid hA
  have HB1 := Lib.hid (((below_drewN (((Below.refl B w).alloc HB.out _).alloc (by have := HB.out; simp; omega) _) nq).setCell (p := ⟨w.heap.size + 1, 4, none⟩) (Nat.le_succ_of_le HB.out) _).trans hb)
  clear hA hb
  go_wp2_with fail
  go_end0
  exact ⟨rfl, vc1, HA.out, HB1.out⟩
set_option maxHeartbeats 8000000 in
set_option maxRecDepth 100000 in
theorem write_4 (w : World) (h : ASt B w g lb pb mb L (.slice al l.length cl) vc l bs ps code) (hlen : l.length ≤ 65536) (hcl : code.length ≤ 1000000) (i : Nat) (x : As.It) (hx : l[i]? = some x) (hk : x.kind = 4) :
    Calls Try.prog 21 #[.pointer (some ⟨g, 0, none⟩), .int .i64 i] w fun e w' => e = .returned (.tuple #[]) ∧ ∃ vc', ASt B w' g lb pb mb L (.slice al l.length cl) vc' l bs ps (code ++ As.number x.a x.num (As.pieces x.num)) ∧ Below B w w' := by
  have hi : i < l.length := (List.getElem?_eq_some_iff.1 hx).1
  obtain ⟨bl, off, rfl, hbl, hat⟩ := h.items.at (by intro e; rw [e] at hi; simp at hi)
  obtain ⟨d0, d1, d2, d3, d4, d5, d6, d7⟩ := hat i x hx
  have c0 := h.c0
  have H := Lib.hid h
  have hlt := h.lt
  have hg1 : (0 : Int) ≤ i := by omega
  have hg2 : (i : Int) < l.length := by omega
  have hg3 : g < w.heap.size := hlt.1
  have HB : Hid (B ≤ w.heap.size) := by have := h.base; unfold Hid; omega
  rw [hk] at d0
  clear hat hx h hlt
  go_enter Try.func21, Try.ntmps21
  go_wp2_with fail
  refine wp_still_tail 8 (by kernel_rfl) (by kernel_rfl) ?_
  simp only [List.take_succ_cons, List.take_zero, List.drop_succ_cons, List.drop_zero]
  repeat still_step
  still_call (still_of21 (pieces_any _ _))
  repeat still_step
  refine wpStill_nil ?_
  show wpList _ _ _ _ _ _
  go_wp2_with fail
  with_reducible refine (number_any _ (H.out.below (((Below.refl w.heap.size w).alloc (Nat.le_refl _) _).alloc (by simp) _).drew (Nat.le_refl _)) (by omega) _ _ _ (As.pieces_pos _).1 (As.pieces_pos _).2).mono ?_
  rintro e w1 ⟨rfl, vc1, hA, hb⟩
  have HA := Lib.hid hA
  have HB1 := Lib.hid (((((Below.refl B w).alloc HB.out _).alloc (by have := HB.out; simp; omega) _).drew).trans hb)
  clear hA hb
  go_wp2_with fail
  go_end0
  exact ⟨rfl, vc1, HA.out, HB1.out⟩
set_option maxHeartbeats 8000000 in
set_option maxRecDepth 100000 in
theorem write_5 (w : World) (h : ASt B w g lb pb mb L (.slice al l.length cl) vc l bs ps code) (hlen : l.length ≤ 65536) (hcl : code.length ≤ 1000000) (i : Nat) (x : As.It) (hx : l[i]? = some x) (hk : x.kind = 5) (t p q : Nat) (ht : As.find x.label l = some t) (hL : alook L x.label = some (.int .i64 t)) (hp : ps[i]? = some p) (hq : ps[t]? = some q) (hpb : p ≤ 262144) (hqb : q ≤ 262144) :
    Calls Try.prog 21 #[.pointer (some ⟨g, 0, none⟩), .int .i64 i] w fun e w' => e = .returned (.tuple #[]) ∧ ∃ vc', ASt B w' g lb pb mb L (.slice al l.length cl) vc' l bs ps (code ++ As.number x.a q 2) ∧ Below B w w' := by
  have hi : i < l.length := (List.getElem?_eq_some_iff.1 hx).1
  obtain ⟨bl, off, rfl, hbl, hat⟩ := h.items.at (by intro e; rw [e] at hi; simp at hi)
  obtain ⟨d0, d1, d2, d3, d4, d5, d6, d7⟩ := hat i x hx
  have c0 := h.c0
  have H := Lib.hid h
  have hlt := h.lt
  have hg1 : (0 : Int) ≤ i := by omega
  have hg2 : (i : Int) < l.length := by omega
  have hg3 : g < w.heap.size := hlt.1
  have HB : Hid (B ≤ w.heap.size) := by have := h.base; unfold Hid; omega
  have c1 := h.c1
  have c3 := h.c3
  have hg4 : pb < w.heap.size := hlt.2.2
  have htl := As.find_lt ht
  have ct := h.cp hq
  have cp := h.cp hp
  have hlk := look_at ((H.out.alloc' (.cells #[.int .i64 x.kind, .int .i64 x.op, .int .i64 x.a, .int .i64 x.b, .int .i64 x.c, .int .i64 x.n, .int .i64 x.label, .int .i64 x.num] 35)).alloc' (.cells #[.int .i64 x.op, .int .i64 x.a, .int .i64 x.b, .int .i64 x.c, .int .i64 x.n] 33)).map x.label t hL
  have hgs : IntKind.i64.wrap ((q : Int) - p) = (q : Int) - p := by rw [IntKind.wrap_i64]; omega
  have hgt : IntKind.i64.wrap ((q : Int) - p - 1) = (q : Int) - p - 1 := by rw [IntKind.wrap_i64]; omega
  have hgu : IntKind.i64.wrap ((q : Int) - p + p) = (q : Int) := by rw [IntKind.wrap_i64]; omega
  have hg5 : (0 : Int) ≤ t := by omega
  have hg6 : (t : Int) < l.length := by omega
  clear ht hq hp hL
  rw [hk] at d0
  rw [hk] at hlk
  clear hat hx h hlt
  go_enter Try.func21, Try.ntmps21
  go_wp2_with fail
  go_quiet (fail)
  go_wp2_with fail
  refine wp_still_tail 12 (by kernel_rfl) (by kernel_rfl) ?_
  simp only [List.take_succ_cons, List.take_zero, List.drop_succ_cons, List.drop_zero]
  repeat still_step
  refine wpStill_nil ?_
  show wpList _ _ _ _ _ _
  go_wp2_with fail
  with_reducible refine (number_two _ (H.out.below (below_drewN (((Below.refl w.heap.size w).alloc (Nat.le_refl _) _).alloc (by simp) _) (nq + 1)) (Nat.le_refl _)) (by omega) _ _).mono ?_
  rintro e w1 ⟨rfl, vc1, hA, hb⟩
  have HA := Lib.hid hA
  have HB1 := Lib.hid ((below_drewN (((Below.refl B w).alloc HB.out _).alloc (by have := HB.out; simp; omega) _) (nq + 1)).trans hb)
  clear hA hb
  go_wp2_with fail
  go_end0
  exact ⟨rfl, vc1, HA.out, HB1.out⟩
/-- What the assembler writes of an item. -/
theorem write_any (w : World) (h : ASt B w g lb pb mb L (.slice al l.length cl) vc l bs ps code) (hlen : l.length ≤ 65536) (hcl : code.length ≤ 1000000) (hL : Labels l L) (hf : ∀ x ∈ l, As.names x = true → ∃ t, As.find x.label l = some t) (hps : ∀ p ∈ ps, p ≤ 262144) (i : Nat) (x : As.It) (b : Bool) (p : Nat) (hx : l[i]? = some x) (hb : bs[i]? = some b) (hp : ps[i]? = some p) (hm : As.may x = true) :
    Calls Try.prog 21 #[.pointer (some ⟨g, 0, none⟩), .int .i64 i] w fun e w' => e = .returned (.tuple #[]) ∧ ∃ vc', ASt B w' g lb pb mb L (.slice al l.length cl) vc' l bs ps (code ++ As.words x b p (As.far l ps x p)) ∧ Below B w w' := by
  have key : As.names x = true → ∃ t q, As.find x.label l = some t ∧ alook L x.label = some (.int .i64 t) ∧ ps[t]? = some q ∧ p ≤ 262144 ∧ q ≤ 262144 ∧ As.far l ps x p = (q : Int) - p := by
    intro hn
    obtain ⟨t, ht⟩ := hf x (List.mem_of_getElem? hx) hn
    have htl := As.find_lt ht
    obtain ⟨q, hq⟩ : ∃ q, ps[t]? = some q := ⟨_, List.getElem?_eq_getElem (by have := h.lps; omega)⟩
    refine ⟨t, q, ht, hL _ _ ht, hq, hps _ (List.mem_of_getElem? hp), hps _ (List.mem_of_getElem? hq), ?_⟩
    unfold As.far
    rw [ht, Option.bind_some, hq]
    rfl
  rcases As.may_kind hm with hk | hk | hk | hk | hk | hk
  · have e : As.words x b p (As.far l ps x p) = [Rs.encW x.op x.a x.b x.c x.n] := by unfold As.words; rw [if_pos hk]
    rw [e]
    exact write_0 w h hlen hcl i x hx hk
  · have e : As.words x b p (As.far l ps x p) = [] := by unfold As.words; simp [hk]
    rw [e]
    exact write_1 w h hlen hcl i x hx hk
  · obtain ⟨t, q, ht, hl, hq, h1, h2, h3⟩ := key (by simp [As.names, hk])
    cases b
    · have e : As.words x false p (As.far l ps x p) = [Rs.encW x.op x.a x.b x.c ((q : Int) - p)] := by rw [h3]; unfold As.words; simp [hk]
      rw [e]
      exact write_2s w h hlen hcl i x hx hk t p q ht hl hp hq h1 h2 hb
    · have e : As.words x true p (As.far l ps x p) = [Rs.encW (As.opposite x.op) x.a x.b 0 2, Rs.encW 28 0 0 0 ((q : Int) - p - 1)] := by rw [h3]; unfold As.words; simp [hk]
      rw [e]
      exact write_2l w h hlen hcl i x hx hk t p q ht hl hp hq h1 h2 hb
  · obtain ⟨t, q, ht, hl, hq, h1, h2, h3⟩ := key (by simp [As.names, hk])
    have e : As.words x b p (As.far l ps x p) = [Rs.encW x.op x.a x.b x.c ((q : Int) - p)] := by rw [h3]; unfold As.words; simp [hk]
    rw [e]
    exact write_3 w h hlen hcl i x hx hk t p q ht hl hp hq h1 h2
  · have e : As.words x b p (As.far l ps x p) = As.number x.a x.num (As.pieces x.num) := by unfold As.words; simp [hk]
    rw [e]
    exact write_4 w h hlen hcl i x hx hk
  · obtain ⟨t, q, ht, hl, hq, h1, h2, h3⟩ := key (by simp [As.names, hk])
    have e : As.words x b p (As.far l ps x p) = As.number x.a q 2 := by rw [h3]; unfold As.words; simp only [hk]; simp
    rw [e]
    exact write_5 w h hlen hcl i x hx hk t p q ht hl hp hq h1 h2
end
end Go.Proofs.Ytbcpflogkniojaa
