/- The machine's prim. -/
import Derived.WalkSpells
import Derived.Deep.DeepCutAuto
import Derived.Test.YtalfnaielhbocaaKJbd
import Derived.Test.YtalfnaielhbocaaKJbe
import Derived.BigRegion
import Derived.Deep.RegionHeld3
import Derived.Test.YtalfnaielhbocaaKJat
import Derived.Test.YtalfnaielhbocaaKJas
import Derived.Test.YtalfnaielhbocaaKJaz
set_option linter.unusedVariables false
set_option linter.unusedSimpArgs false
set_option linter.unnecessarySimpa false
namespace Go.Proofs.Ytalfnaielhbocaa
open Go.RowKit
set_option linter.unusedVariables false
set_option linter.unusedSimpArgs false
set_option maxRecDepth 100000
namespace Vm
section
variable {w0 w w' : World} {ρ ρ' : Nat → Nat} {H : Nat → Value} {m hb mb : Nat} {T : List Hp.Th} {C : List Cl} {out : List UInt8} {regs : List Hp.V} {frs : List Fr} {ov rv fv cv : Value} {cbs : List Nat} {s : St} {left steps : Nat}
def PrimPost (w0 w : World) (ρ : Nat → Nat) (H : Nat → Value) (m : Nat) (cv : Value) (s' : St) (left steps hb mb : Nat) (rv fv : Value) (cbs : List Nat) (r : Hp.V) (e : Ending) (w' : World) : Prop :=
  e = .returned r.val ∧ (∃ ρ' ov', VmO w0 w' ρ' H m cv s' left steps hb mb ov' rv fv cbs ∧ ∀ b, b < w.heap.size → ρ b = 0 → ρ' b = 0) ∧ w.heap.size ≤ w'.heap.size ∧ ∀ b, b < w.heap.size → ρ b = 0 → w'.heap[b]? = w.heap[b]?
structure PrimAt (w0 w w2 : World) (ρ : Nat → Nat) (H : Nat → Value) (m : Nat) (cv : Value) (s : St) (left steps hb mb : Nat) (ov rv fv : Value) (cbs : List Nat) : Prop where
  eq : w2 = (w.alloc (.cells #[.int .i64 0, .int .i64 0, .string ⟨#[]⟩] 64)).alloc (.cells #[.int .i64 5, .int .i64 0, .string ⟨#[]⟩] 64)
  at' : VmO w0 w2 ρ H m cv s left steps hb mb ov rv fv cbs
  below : Below w.heap.size w w2
  size : w2.heap.size = w.heap.size + 1 + 1
  res : w2.heap[w.heap.size]? = some (.cells #[.int .i64 0, .int .i64 0, .string ⟨#[]⟩] 64 (0, 0))
  void : w2.heap[w.heap.size + 1]? = some (.cells #[.int .i64 5, .int .i64 0, .string ⟨#[]⟩] 64 (0, 0))
  r0 : ρ w.heap.size = 0
  r1 : ρ (w.heap.size + 1) = 0
  base : w0.heap.size ≤ w.heap.size
  lt : m < w.heap.size
theorem PrimAt.of (h : VmO w0 w ρ H m cv s left steps hb mb ov rv fv cbs) : ∃ w2, PrimAt w0 w w2 ρ H m cv s left steps hb mb ov rv fv cbs := by
  obtain ⟨w1, B1⟩ := boxed w #[.int .i64 0, .int .i64 0, .string ⟨#[]⟩] 64
  obtain ⟨w2, B2⟩ := boxed w1 #[.int .i64 5, .int .i64 0, .string ⟨#[]⟩] 64
  have hB : Below w.heap.size w w2 := B1.below.trans (B2.below.mono B1.below.size)
  have h1 := B1.size
  have h2 := B2.size
  have hz : ∀ b, w.heap.size ≤ b → ρ b = 0 := fun b hb => Decidable.byContradiction fun e => by have := (h.c.lo _ e).2; omega
  refine ⟨w2, by rw [B2.eq, B1.eq], h.bel hB, hB, by omega, ?_, ?_, hz _ (Nat.le_refl _), hz _ (by omega), h.c.below.size, h.lt⟩
  · rw [B2.below.block _ (by omega)]
    exact B1.blk
  · rw [← h1]
    exact B2.blk
theorem prim_fin {w2 w3 : World} {s' : St} {ov' : Value} {r : Hp.V} {ov : Value} (P : PrimAt w0 w w2 ρ H m cv s left steps hb mb ov rv fv cbs) (X : VmO w0 w3 ρ' H m cv s' left steps hb mb ov' rv fv cbs) (hs : w.heap.size < w3.heap.size) (hr : ρ' w.heap.size = 0)
    (hk : ∀ b, b < w.heap.size → ρ b = 0 → ρ' b = 0 ∧ w3.heap[b]? = w2.heap[b]?) :
    PrimPost w0 w ρ H m cv s' left steps hb mb rv fv cbs r (.returned r.val) (((w3.setCell ⟨w.heap.size, 0, none⟩ (.int .i64 r.kind)).setCell ⟨w.heap.size, 1, none⟩ (.int .i64 r.int)).setCell ⟨w.heap.size, 2, none⟩ (.string r.text)) := by
  refine ⟨rfl, ⟨ρ', ov', ((X.store hr P.base 0 _).store hr P.base 1 _).store hr P.base 2 _, fun b h1 h2 => (hk b h1 h2).1⟩, ?_, fun b h1 h2 => ?_⟩
  · simp [World.setCell]
    omega
  · have hb : b ≠ w.heap.size := by omega
    rw [heap_setCell_other _ _ _ _ hb, heap_setCell_other _ _ _ _ hb, heap_setCell_other _ _ _ _ hb, (hk b h1 h2).2]
    exact P.below.block b h1
structure Res3 (w : World) (b : Nat) (k i : Int) (t : ByteArray) : Prop where
  c0 : w.cell? ⟨b, 0, none⟩ = some (.int .i64 k)
  c1 : w.cell? ⟨b, 1, none⟩ = some (.int .i64 i)
  c2 : w.cell? ⟨b, 2, none⟩ = some (.string t)
  f0 : w.frozen? ⟨b, 0, none⟩ = false
  f1 : w.frozen? ⟨b, 1, none⟩ = false
  f2 : w.frozen? ⟨b, 2, none⟩ = false
theorem Res3.of {w : World} {b : Nat} {k i : Int} {t : ByteArray} {ty : TypeId} (h : w.heap[b]? = some (.cells #[.int .i64 k, .int .i64 i, .string t] ty (0, 0))) : Res3 w b k i t :=
  ⟨cell_of_row w _ 0 _ _ _ h, cell_of_row w _ 1 _ _ _ h, cell_of_row w _ 2 _ _ _ h, frozen_of_row w _ 0 _ _ h, frozen_of_row w _ 1 _ _ h, frozen_of_row w _ 2 _ _ h⟩
set_option maxHeartbeats 2000000 in
theorem prim_error (h : VmO w0 w ρ H m cv s left steps hb mb ov rv fv cbs) (a : List Hp.V) (aa : Option Addr) (na ca : Nat) :
    Calls Try.prog 56 #[.pointer (some ⟨m, 0, none⟩), .string sError, .slice aa na ca] w (PrimPost w0 w ρ H m cv (prim s sError a).2 left steps hb mb rv fv cbs (prim s sError a).1) := by
  obtain ⟨w2, P⟩ := PrimAt.of h
  have hm := P.lt
  have e : prim s sError a = (Hp.void, { s with e := 92 }) := by unfold prim; rw [if_neg (by decide), if_neg (by decide), if_pos rfl]
  rw [e]
  have X := P.at'.set 10 (.int .i64 92) (s' := { s with e := 92 }) (left' := left) (steps' := steps) rfl rfl rfl rfl rfl rfl
  obtain ⟨z0, z1, z2, y0, y1, y2⟩ := Res3.of P.res
  obtain ⟨v0, v1, v2, _, _, _⟩ := Res3.of P.void
  have c10 : w2.cell? ⟨m, 10, none⟩ = some (.int .i64 s.e) := P.at'.cell 10
  have f10 := P.at'.fz 10
  have hm2 := P.at'.lt
  have hsz := P.size
  have hr2 : w.heap.size < w2.heap.size := by omega
  have hv2 : w.heap.size + 1 < w2.heap.size := by omega
  have hn1 : m ≠ w.heap.size := by omega
  have hn2 : w.heap.size ≠ m := by omega
  have hn3 : m ≠ w.heap.size + 1 := by omega
  have hn4 : w.heap.size + 1 ≠ m := by omega
  have HP := Lib.hid P
  have HX := Lib.hid X
  clear h P X e hsz
  unfold sError
  go_enter Try.func56, Try.ntmps56
  go_upto_region 2 with fail
  rw [← HP.out.eq]
  go_wp2_with fail
  refine bodyPost_ret (res1 rfl _ _ w.heap.size 64 _ (0, 0) rfl (three_set _ _ _ _ _ _ _ _ _ ((heap_setCell_other _ _ _ _ hn2).trans HP.out.res)) valD valSize) rfl ?_
  exact prim_fin HP.out HX.out (by simpa [World.setCell] using hr2) HP.out.r0 fun b h1 h2 => ⟨h2, heap_setCell_other _ _ _ _ fun e => by rw [e, HX.out.c.me] at h2; cases h2⟩
set_option maxHeartbeats 2000000 in
theorem prim_winders (h : VmO w0 w ρ H m cv s left steps hb mb ov rv fv cbs) (a : List Hp.V) (aa : Option Addr) (na ca : Nat) :
    Calls Try.prog 56 #[.pointer (some ⟨m, 0, none⟩), .string sWinders, .slice aa na ca] w (PrimPost w0 w ρ H m cv (prim s sWinders a).2 left steps hb mb rv fv cbs (prim s sWinders a).1) := by
  obtain ⟨w2, P⟩ := PrimAt.of h
  have hm := P.lt
  obtain ⟨z0, z1, z2, y0, y1, y2⟩ := Res3.of P.res
  obtain ⟨v0, v1, v2, _, _, _⟩ := Res3.of P.void
  have hm2 := P.at'.lt
  have hsz := P.size
  have hr2 : w.heap.size < w2.heap.size := by omega
  have hv2 : w.heap.size + 1 < w2.heap.size := by omega
  have hn1 : m ≠ w.heap.size := by omega
  have hn2 : w.heap.size ≠ m := by omega
  have hn3 : m ≠ w.heap.size + 1 := by omega
  have hn4 : w.heap.size + 1 ≠ m := by omega
  have HP := Lib.hid P
  have e : prim s sWinders a = (s.winders, s) := by unfold prim; rw [if_neg (by decide), if_neg (by decide), if_neg (by decide), if_pos rfl]
  rw [e]
  have c5 : w2.cell? ⟨m, 5, none⟩ = some (.int .i64 s.winders.kind) := P.at'.cell 5
  have c6 : w2.cell? ⟨m, 6, none⟩ = some (.int .i64 s.winders.int) := P.at'.cell 6
  have c7 : w2.cell? ⟨m, 7, none⟩ = some (.string s.winders.text) := P.at'.cell 7
  clear h P e hsz
  unfold sWinders
  go_enter Try.func56, Try.ntmps56
  go_upto_region 2 with fail
  rw [← HP.out.eq]
  go_wp2_with fail
  refine bodyPost_ret (res1 rfl _ _ w.heap.size 64 _ (0, 0) rfl (three_set _ _ _ _ _ _ _ _ _ HP.out.res) valD valSize) rfl ?_
  exact prim_fin HP.out HP.out.at' hr2 HP.out.r0 fun b h1 h2 => ⟨h2, rfl⟩
set_option maxHeartbeats 2000000 in
theorem prim_wind (h : VmO w0 w ρ H m cv s left steps hb mb ov rv fv cbs) (a : List Hp.V) (aa : Option Addr) (na ca : Nat) (v : Hp.V) (g : Nat) (haa : aa = some ⟨g, 0, none⟩) (hna : 0 < na) (hg : g < w.heap.size) (hg0 : ρ g = 0) (hc : w.cell? ⟨g, 0, none⟩ = some (.int .i64 v.kind) ∧ w.cell? ⟨g, 1, none⟩ = some (.int .i64 v.int) ∧ w.cell? ⟨g, 2, none⟩ = some (.string v.text)) (hv : a.getD 0 Hp.none = v) :
    Calls Try.prog 56 #[.pointer (some ⟨m, 0, none⟩), .string sWind, .slice aa na ca] w (PrimPost w0 w ρ H m cv (prim s sWind a).2 left steps hb mb rv fv cbs (prim s sWind a).1) := by
  obtain ⟨w2, P⟩ := PrimAt.of h
  have hm := P.lt
  obtain ⟨z0, z1, z2, y0, y1, y2⟩ := Res3.of P.res
  obtain ⟨v0, v1, v2, _, _, _⟩ := Res3.of P.void
  have hm2 := P.at'.lt
  have hsz := P.size
  have hr2 : w.heap.size < w2.heap.size := by omega
  have hv2 : w.heap.size + 1 < w2.heap.size := by omega
  have hn1 : m ≠ w.heap.size := by omega
  have hn2 : w.heap.size ≠ m := by omega
  have hn3 : m ≠ w.heap.size + 1 := by omega
  have hn4 : w.heap.size + 1 ≠ m := by omega
  have HP := Lib.hid P
  have e : prim s sWind a = (Hp.void, { s with winders := a.getD 0 Hp.none }) := by unfold prim; rw [if_neg (by decide), if_neg (by decide), if_neg (by decide), if_neg (by decide), if_pos rfl]
  rw [e, hv]
  obtain ⟨a0, a1, a2⟩ := hc
  rw [← P.below.cell (p := ⟨g, 0, none⟩) hg] at a0
  rw [← P.below.cell (p := ⟨g, 1, none⟩) hg] at a1
  rw [← P.below.cell (p := ⟨g, 2, none⟩) hg] at a2
  have hg2 : g < w2.heap.size := by omega
  have hgm : g ≠ m := fun e => by have := h.c.me; rw [← e, hg0] at this; cases this
  have hmg : m ≠ g := fun e => hgm e.symm
  have hna' : (0 : Int) < na := by omega
  subst haa
  have c5 : w2.cell? ⟨m, 5, none⟩ = some (.int .i64 s.winders.kind) := P.at'.cell 5
  have c6 : w2.cell? ⟨m, 6, none⟩ = some (.int .i64 s.winders.int) := P.at'.cell 6
  have c7 : w2.cell? ⟨m, 7, none⟩ = some (.string s.winders.text) := P.at'.cell 7
  have f5 := P.at'.fz 5
  have f6 := P.at'.fz 6
  have f7 := P.at'.fz 7
  have X := ((P.at'.set 5 (.int .i64 v.kind) (s' := { s with winders := ⟨v.kind, s.winders.int, s.winders.text⟩ }) (left' := left) (steps' := steps) rfl rfl rfl rfl rfl rfl).set 6 (.int .i64 v.int) (s' := { s with winders := ⟨v.kind, v.int, s.winders.text⟩ }) (left' := left) (steps' := steps) rfl rfl rfl rfl rfl rfl).set 7 (.string v.text) (s' := { s with winders := v }) (left' := left) (steps' := steps) rfl rfl rfl rfl rfl rfl
  have HX := Lib.hid X
  clear h P e hsz hv X
  unfold sWind
  go_enter Try.func56, Try.ntmps56
  go_upto_region 2 with fail
  rw [← HP.out.eq]
  go_wp2_with fail
  refine bodyPost_ret (res1 rfl _ _ w.heap.size 64 _ (0, 0) rfl (three_set _ _ _ _ _ _ _ _ _ ((heap_setCell_other _ _ _ _ hn2).trans ((heap_setCell_other _ _ _ _ hn2).trans ((heap_setCell_other _ _ _ _ hn2).trans HP.out.res)))) valD valSize) rfl ?_
  refine prim_fin HP.out HX.out (by simpa [World.setCell] using hr2) HP.out.r0 fun b h1 h2 => ⟨h2, ?_⟩
  have hbm : b ≠ m := fun e => by rw [e, HX.out.c.me] at h2; cases h2
  rw [heap_setCell_other _ _ _ _ hbm, heap_setCell_other _ _ _ _ hbm, heap_setCell_other _ _ _ _ hbm]
set_option maxHeartbeats 2000000 in
theorem prim_read0 (h : VmO w0 w ρ H m cv s left steps hb mb ov rv fv cbs) (a : List Hp.V) (aa : Option Addr) (na ca : Nat) (hin : s.input = []) :
    Calls Try.prog 56 #[.pointer (some ⟨m, 0, none⟩), .string sRead, .slice aa na ca] w (PrimPost w0 w ρ H m cv (prim s sRead a).2 left steps hb mb rv fv cbs (prim s sRead a).1) := by
  obtain ⟨w2, P⟩ := PrimAt.of h
  have hm := P.lt
  obtain ⟨z0, z1, z2, y0, y1, y2⟩ := Res3.of P.res
  obtain ⟨v0, v1, v2, _, _, _⟩ := Res3.of P.void
  have hm2 := P.at'.lt
  have hsz := P.size
  have hr2 : w.heap.size < w2.heap.size := by omega
  have hv2 : w.heap.size + 1 < w2.heap.size := by omega
  have hn1 : m ≠ w.heap.size := by omega
  have hn2 : w.heap.size ≠ m := by omega
  have hn3 : m ≠ w.heap.size + 1 := by omega
  have hn4 : w.heap.size + 1 ≠ m := by omega
  have HP := Lib.hid P
  have e : prim s sRead a = (⟨6, 0, ⟨#[]⟩⟩, s) := by unfold prim; rw [if_pos rfl, hin]
  rw [e]
  have c3 : w2.cell? ⟨m, 3, none⟩ = some (.string ⟨#[]⟩) := by
    have := P.at'.cell 3
    rw [this]
    show some (Value.string ⟨s.input.toArray⟩) = _
    rw [hin]
  clear h P e hsz
  unfold sRead
  go_enter Try.func56, Try.ntmps56
  go_upto_region 2 with fail
  rw [← HP.out.eq]
  go_wp2_with fail
  refine bodyPost_ret (res1 rfl _ _ w.heap.size 64 _ (0, 0) rfl (three_set _ _ _ _ _ _ _ _ _ HP.out.res) valD valSize) rfl ?_
  exact prim_fin (r := ⟨6, 0, ⟨#[]⟩⟩) HP.out HP.out.at' hr2 HP.out.r0 fun b h1 h2 => ⟨h2, rfl⟩
theorem byte_tail (b : UInt8) (l : List UInt8) (n : Nat) (hn : n = l.length + 1) : (⟨(b :: l).toArray⟩ : ByteArray).extract 1 n = ⟨l.toArray⟩ := by
  have h : ((⟨(b :: l).toArray⟩ : ByteArray).extract 1 n).data.toList = l := by
    rw [Lib.extract_data, hn]
    simp
  generalize (⟨(b :: l).toArray⟩ : ByteArray).extract 1 n = t at h
  obtain ⟨t⟩ := t
  simp only at h
  rw [← h]
set_option maxHeartbeats 2000000 in
theorem prim_read1 (h : VmO w0 w ρ H m cv s left steps hb mb ov rv fv cbs) (a : List Hp.V) (aa : Option Addr) (na ca : Nat) (b : UInt8) (l : List UInt8) (hin : s.input = b :: l) :
    Calls Try.prog 56 #[.pointer (some ⟨m, 0, none⟩), .string sRead, .slice aa na ca] w (PrimPost w0 w ρ H m cv (prim s sRead a).2 left steps hb mb rv fv cbs (prim s sRead a).1) := by
  obtain ⟨w2, P⟩ := PrimAt.of h
  have hm := P.lt
  obtain ⟨z0, z1, z2, y0, y1, y2⟩ := Res3.of P.res
  obtain ⟨v0, v1, v2, _, _, _⟩ := Res3.of P.void
  have hm2 := P.at'.lt
  have hsz := P.size
  have hr2 : w.heap.size < w2.heap.size := by omega
  have hv2 : w.heap.size + 1 < w2.heap.size := by omega
  have hn1 : m ≠ w.heap.size := by omega
  have hn2 : w.heap.size ≠ m := by omega
  have hn3 : m ≠ w.heap.size + 1 := by omega
  have hn4 : w.heap.size + 1 ≠ m := by omega
  have HP := Lib.hid P
  have e : prim s sRead a = (⟨1, b.toNat, ⟨#[]⟩⟩, { s with input := l }) := by unfold prim; rw [if_pos rfl, hin]
  rw [e]
  obtain ⟨t, ht⟩ : ∃ t : ByteArray, t = ⟨(b :: l).toArray⟩ := ⟨_, rfl⟩
  have c3 : w2.cell? ⟨m, 3, none⟩ = some (.string t) := by
    have := P.at'.cell 3
    rw [this, ht]
    show some (Value.string ⟨s.input.toArray⟩) = _
    rw [hin]
  have f3 := P.at'.fz 3
  have hts : t.size = l.length + 1 := by rw [ht]; show (b :: l).toArray.size = _; simp
  have htp : 0 < t.size := by omega
  have hte : t.extract 1 (l.length + 1) = ⟨l.toArray⟩ := by rw [ht]; exact byte_tail b l _ rfl
  have htl : t.toList = b :: l := by rw [Lib.toList_data, ht]
  have ht0 : t[0] = b := by
    have : ∀ (x : ByteArray) (h : 0 < x.size), x = ⟨(b :: l).toArray⟩ → x[0] = b := fun x h e => by subst e; rfl
    exact this t htp ht
  have hnn : ¬ t.toList = [] := by rw [htl]; simp
  have hne : t.toList.isEmpty = false := by rw [htl]; rfl
  have h1s : (1 : Int) ≤ t.size := by omega
  have X := P.at'.set 3 (.string ⟨l.toArray⟩) (s' := { s with input := l }) (left' := left) (steps' := steps) rfl rfl rfl rfl rfl rfl
  have HX := Lib.hid X
  have HTE := Lib.hid hte
  have HT0 := Lib.hid ht0
  clear h P e hsz X ht hte ht0
  unfold sRead
  go_enter Try.func56, Try.ntmps56
  go_upto_region 2 with fail
  rw [← HP.out.eq]
  go_wp2_with fail
  rw [HTE.out, HT0.out]
  have hw64 : wrap64 ((b.toNat : Nat) : Int) = b.toNat := by
    have := b.toNat_lt
    unfold wrap64
    omega
  rw [hw64]
  refine bodyPost_ret (res1 rfl _ _ w.heap.size 64 _ (0, 0) rfl (three_set _ _ _ _ _ _ _ _ _ ((heap_setCell_other _ _ _ _ hn2).trans HP.out.res)) valD valSize) rfl ?_
  exact prim_fin (r := ⟨1, b.toNat, ⟨#[]⟩⟩) HP.out HX.out (by simpa [World.setCell] using hr2) HP.out.r0 fun b h1 h2 => ⟨h2, heap_setCell_other _ _ _ _ fun e => by rw [e, HX.out.c.me] at h2; cases h2⟩
set_option maxHeartbeats 2000000 in
theorem prim_write_kind (h : VmO w0 w ρ H m cv s left steps hb mb ov rv fv cbs) (a : List Hp.V) (aa : Option Addr) (na ca : Nat) (v : Hp.V) (g : Nat) (haa : aa = some ⟨g, 0, none⟩) (hna : 0 < na) (hg : g < w.heap.size) (hg0 : ρ g = 0) (hc : w.cell? ⟨g, 0, none⟩ = some (.int .i64 v.kind) ∧ w.cell? ⟨g, 1, none⟩ = some (.int .i64 v.int) ∧ w.cell? ⟨g, 2, none⟩ = some (.string v.text)) (hv : a.getD 0 Hp.none = v) (hk : v.kind ≠ 1) :
    Calls Try.prog 56 #[.pointer (some ⟨m, 0, none⟩), .string sWrite, .slice aa na ca] w (PrimPost w0 w ρ H m cv (prim s sWrite a).2 left steps hb mb rv fv cbs (prim s sWrite a).1) := by
  obtain ⟨w2, P⟩ := PrimAt.of h
  have hm := P.lt
  obtain ⟨z0, z1, z2, y0, y1, y2⟩ := Res3.of P.res
  obtain ⟨v0, v1, v2, _, _, _⟩ := Res3.of P.void
  have hm2 := P.at'.lt
  have hsz := P.size
  have hr2 : w.heap.size < w2.heap.size := by omega
  have hv2 : w.heap.size + 1 < w2.heap.size := by omega
  have hn1 : m ≠ w.heap.size := by omega
  have hn2 : w.heap.size ≠ m := by omega
  have hn3 : m ≠ w.heap.size + 1 := by omega
  have hn4 : w.heap.size + 1 ≠ m := by omega
  have HP := Lib.hid P
  have e : prim s sWrite a = (Hp.void, { s with e := 80 }) := by unfold prim; rw [if_neg (by decide), if_pos rfl, hv]; rw [if_pos hk]
  rw [e]
  obtain ⟨a0, a1, a2⟩ := hc
  rw [← P.below.cell (p := ⟨g, 0, none⟩) hg] at a0
  rw [← P.below.cell (p := ⟨g, 1, none⟩) hg] at a1
  rw [← P.below.cell (p := ⟨g, 2, none⟩) hg] at a2
  have hg2 : g < w2.heap.size := by omega
  have hgm : g ≠ m := fun e => by have := h.c.me; rw [← e, hg0] at this; cases this
  have hmg : m ≠ g := fun e => hgm e.symm
  have hna' : (0 : Int) < na := by omega
  subst haa
  have q1 : (v.kind != 1) = true := by rw [bne_iff_ne]; exact hk
  clear hk
  have c10 : w2.cell? ⟨m, 10, none⟩ = some (.int .i64 s.e) := P.at'.cell 10
  have f10 := P.at'.fz 10
  have HX := Lib.hid (P.at'.set 10 (.int .i64 80) (s' := { s with e := 80 }) (left' := left) (steps' := steps) rfl rfl rfl rfl rfl rfl)
  clear h P e hsz hv
  unfold sWrite
  go_enter Try.func56, Try.ntmps56
  go_upto_region 2 with fail
  rw [← HP.out.eq]
  go_wp2_with fail
  refine bodyPost_ret (res1 rfl _ _ w.heap.size 64 _ (0, 0) rfl (three_set _ _ _ _ _ _ _ _ _ ((heap_setCell_other _ _ _ _ hn2).trans HP.out.res)) valD valSize) rfl ?_
  exact prim_fin HP.out HX.out (by simpa [World.setCell] using hr2) HP.out.r0 fun b h1 h2 => ⟨h2, heap_setCell_other _ _ _ _ fun e => by rw [e, HX.out.c.me] at h2; cases h2⟩
set_option maxHeartbeats 2000000 in
theorem prim_write_low (h : VmO w0 w ρ H m cv s left steps hb mb ov rv fv cbs) (a : List Hp.V) (aa : Option Addr) (na ca : Nat) (v : Hp.V) (g : Nat) (haa : aa = some ⟨g, 0, none⟩) (hna : 0 < na) (hg : g < w.heap.size) (hg0 : ρ g = 0) (hc : w.cell? ⟨g, 0, none⟩ = some (.int .i64 v.kind) ∧ w.cell? ⟨g, 1, none⟩ = some (.int .i64 v.int) ∧ w.cell? ⟨g, 2, none⟩ = some (.string v.text)) (hv : a.getD 0 Hp.none = v) (hk : v.kind = 1) (hi : v.int < 0) :
    Calls Try.prog 56 #[.pointer (some ⟨m, 0, none⟩), .string sWrite, .slice aa na ca] w (PrimPost w0 w ρ H m cv (prim s sWrite a).2 left steps hb mb rv fv cbs (prim s sWrite a).1) := by
  obtain ⟨w2, P⟩ := PrimAt.of h
  have hm := P.lt
  obtain ⟨z0, z1, z2, y0, y1, y2⟩ := Res3.of P.res
  obtain ⟨v0, v1, v2, _, _, _⟩ := Res3.of P.void
  have hm2 := P.at'.lt
  have hsz := P.size
  have hr2 : w.heap.size < w2.heap.size := by omega
  have hv2 : w.heap.size + 1 < w2.heap.size := by omega
  have hn1 : m ≠ w.heap.size := by omega
  have hn2 : w.heap.size ≠ m := by omega
  have hn3 : m ≠ w.heap.size + 1 := by omega
  have hn4 : w.heap.size + 1 ≠ m := by omega
  have HP := Lib.hid P
  have e : prim s sWrite a = (Hp.void, { s with e := 83 }) := by unfold prim; rw [if_neg (by decide), if_pos rfl, hv]; rw [if_neg (by omega), if_pos (.inl hi)]
  rw [e]
  obtain ⟨a0, a1, a2⟩ := hc
  rw [← P.below.cell (p := ⟨g, 0, none⟩) hg] at a0
  rw [← P.below.cell (p := ⟨g, 1, none⟩) hg] at a1
  rw [← P.below.cell (p := ⟨g, 2, none⟩) hg] at a2
  have hg2 : g < w2.heap.size := by omega
  have hgm : g ≠ m := fun e => by have := h.c.me; rw [← e, hg0] at this; cases this
  have hmg : m ≠ g := fun e => hgm e.symm
  have hna' : (0 : Int) < na := by omega
  subst haa
  have q1 : (v.kind != 1) = false := by rw [hk]; rfl
  have q2 : decide (v.int < 0) = true := decide_eq_true hi
  clear hk hi
  have c10 : w2.cell? ⟨m, 10, none⟩ = some (.int .i64 s.e) := P.at'.cell 10
  have f10 := P.at'.fz 10
  have HX := Lib.hid (P.at'.set 10 (.int .i64 83) (s' := { s with e := 83 }) (left' := left) (steps' := steps) rfl rfl rfl rfl rfl rfl)
  clear h P e hsz hv
  unfold sWrite
  go_enter Try.func56, Try.ntmps56
  go_upto_region 2 with fail
  rw [← HP.out.eq]
  go_wp2_with fail
  refine bodyPost_ret (res1 rfl _ _ w.heap.size 64 _ (0, 0) rfl (three_set _ _ _ _ _ _ _ _ _ ((heap_setCell_other _ _ _ _ hn2).trans HP.out.res)) valD valSize) rfl ?_
  exact prim_fin HP.out HX.out (by simpa [World.setCell] using hr2) HP.out.r0 fun b h1 h2 => ⟨h2, heap_setCell_other _ _ _ _ fun e => by rw [e, HX.out.c.me] at h2; cases h2⟩
set_option maxHeartbeats 2000000 in
theorem prim_write_high (h : VmO w0 w ρ H m cv s left steps hb mb ov rv fv cbs) (a : List Hp.V) (aa : Option Addr) (na ca : Nat) (v : Hp.V) (g : Nat) (haa : aa = some ⟨g, 0, none⟩) (hna : 0 < na) (hg : g < w.heap.size) (hg0 : ρ g = 0) (hc : w.cell? ⟨g, 0, none⟩ = some (.int .i64 v.kind) ∧ w.cell? ⟨g, 1, none⟩ = some (.int .i64 v.int) ∧ w.cell? ⟨g, 2, none⟩ = some (.string v.text)) (hv : a.getD 0 Hp.none = v) (hk : v.kind = 1) (hi : 255 < v.int) :
    Calls Try.prog 56 #[.pointer (some ⟨m, 0, none⟩), .string sWrite, .slice aa na ca] w (PrimPost w0 w ρ H m cv (prim s sWrite a).2 left steps hb mb rv fv cbs (prim s sWrite a).1) := by
  obtain ⟨w2, P⟩ := PrimAt.of h
  have hm := P.lt
  obtain ⟨z0, z1, z2, y0, y1, y2⟩ := Res3.of P.res
  obtain ⟨v0, v1, v2, _, _, _⟩ := Res3.of P.void
  have hm2 := P.at'.lt
  have hsz := P.size
  have hr2 : w.heap.size < w2.heap.size := by omega
  have hv2 : w.heap.size + 1 < w2.heap.size := by omega
  have hn1 : m ≠ w.heap.size := by omega
  have hn2 : w.heap.size ≠ m := by omega
  have hn3 : m ≠ w.heap.size + 1 := by omega
  have hn4 : w.heap.size + 1 ≠ m := by omega
  have HP := Lib.hid P
  have e : prim s sWrite a = (Hp.void, { s with e := 83 }) := by unfold prim; rw [if_neg (by decide), if_pos rfl, hv]; rw [if_neg (by omega), if_pos (.inr hi)]
  rw [e]
  obtain ⟨a0, a1, a2⟩ := hc
  rw [← P.below.cell (p := ⟨g, 0, none⟩) hg] at a0
  rw [← P.below.cell (p := ⟨g, 1, none⟩) hg] at a1
  rw [← P.below.cell (p := ⟨g, 2, none⟩) hg] at a2
  have hg2 : g < w2.heap.size := by omega
  have hgm : g ≠ m := fun e => by have := h.c.me; rw [← e, hg0] at this; cases this
  have hmg : m ≠ g := fun e => hgm e.symm
  have hna' : (0 : Int) < na := by omega
  subst haa
  have q1 : (v.kind != 1) = false := by rw [hk]; rfl
  have q2 : decide (v.int < 0) = false := decide_eq_false (by omega)
  have q3 : decide ((255 : Int) < v.int) = true := decide_eq_true hi
  clear hk hi
  have c10 : w2.cell? ⟨m, 10, none⟩ = some (.int .i64 s.e) := P.at'.cell 10
  have f10 := P.at'.fz 10
  have HX := Lib.hid (P.at'.set 10 (.int .i64 83) (s' := { s with e := 83 }) (left' := left) (steps' := steps) rfl rfl rfl rfl rfl rfl)
  clear h P e hsz hv
  unfold sWrite
  go_enter Try.func56, Try.ntmps56
  go_upto_region 2 with fail
  rw [← HP.out.eq]
  go_wp2_with fail
  refine bodyPost_ret (res1 rfl _ _ w.heap.size 64 _ (0, 0) rfl (three_set _ _ _ _ _ _ _ _ _ ((heap_setCell_other _ _ _ _ hn2).trans HP.out.res)) valD valSize) rfl ?_
  exact prim_fin HP.out HX.out (by simpa [World.setCell] using hr2) HP.out.r0 fun b h1 h2 => ⟨h2, heap_setCell_other _ _ _ _ fun e => by rw [e, HX.out.c.me] at h2; cases h2⟩
theorem infoU8 : (Try.prog.info? 5).map (fun i => (i.zero, i.size, i.bytes)) = some (some (.int .u8 0), 1, 1) := by kernel_rfl
theorem bytes_snoc (l : List UInt8) (x : Int) (h0 : 0 ≤ x) (h1 : x ≤ 255) : bytes (l ++ [UInt8.ofNat x.toNat]) = bytes l ++ [.int .u8 (x % 256)] := by
  have : ((UInt8.ofNat x.toNat).toNat : Int) = x % 256 := by
    rw [UInt8.toNat_ofNat']
    omega
  simp only [bytes, List.map_append, List.map_cons, List.map_nil, this]
structure WrAt (w0 w w5 : World) (ρ : Nat → Nat) (H : Nat → Value) (m : Nat) (cv : Value) (s s' : St) (left steps hb mb : Nat) (ov ov' rv fv : Value) (cbs : List Nat) (a0 a1 a2 : Value) : Prop where
  at' : ∃ ρ', VmO w0 (w5.setCell ⟨m, 4, none⟩ ov') ρ' H m cv s' left steps hb mb ov' rv fv cbs ∧ (∀ b, ρ b = 0 → b < w5.heap.size → ov'.ownBlock ≠ some b → ρ' b = 0)
  cell : w5.cell? ⟨m, 4, none⟩ = some ov
  fz : w5.frozen? ⟨m, 4, none⟩ = false
  lt : m < w5.heap.size
  res : w5.heap[w.heap.size]? = some (.cells #[.int .i64 0, .int .i64 0, .string ⟨#[]⟩] 64 (0, 0))
  void : w5.heap[w.heap.size + 1]? = some (.cells #[.int .i64 5, .int .i64 0, .string ⟨#[]⟩] 64 (0, 0))
  rlt : w.heap.size + 1 < w5.heap.size
  own : ∀ b, b ≤ w.heap.size + 1 → ρ b = 0 → ov'.ownBlock ≠ some b
  kept : ∀ b, b < w.heap.size → ρ b = 0 → w5.heap[b]? = w.heap[b]?
theorem WrAt.mk' {w2 w5 : World} {o : Obj} {x : UInt8} {g cap : Nat} {a0 a1 a2 : Value} (P : PrimAt w0 w w2 ρ H m cv s left steps hb mb ov rv fv cbs) (hown : w5.ownsRow 0 5 1 (.slice (some ⟨g, 0, none⟩) (s.out.length + 1) cap) (s.out.length + 1) (bytes (s.out ++ [x])))
    (hgr : (w2.drew.alloc o).grownBy w5 ov.ownBlock) (hl : ov.ownBlock = some g ∨ g = w2.heap.size + 1) : WrAt w0 w w5 ρ H m cv s { s with out := s.out ++ [x] } left steps hb mb ov (.slice (some ⟨g, 0, none⟩) (s.out.length + 1) cap) rv fv cbs a0 a1 a2 := by
  have hA : Below w2.heap.size w2 (w2.drew.alloc o) := ((Below.refl _ _).drew).alloc (Nat.le_refl _) _
  have X := P.at'.bel hA
  have hsz := P.size
  have hs5 := hgr.size
  have hsA : (w2.drew.alloc o).heap.size = w2.heap.size + 1 := by rw [World.heap_size_alloc]; rfl
  have hkk : ∀ b, b < w2.heap.size → ρ b ≠ 3 → w5.heap[b]? = w2.heap[b]? := fun b h1 h2 => (hgr.block b (by omega) (fun e => h2 (P.at'.c.outr b e.symm))).trans (hA.block b h1)
  have hgz : ∀ b, b < w2.heap.size → ρ b ≠ 3 → (Value.slice (some ⟨g, 0, none⟩) (s.out.length + 1) cap).ownBlock ≠ some b := fun b h1 h2 e => by
    simp [Value.ownBlock] at e
    subst e
    rcases hl with e | e
    · exact h2 (P.at'.c.outr g e)
    · omega
  have hl2 : s.out.length + 1 = (s.out ++ [x]).length := by simp
  rw [hl2] at hown
  have hC := X.c.newOut hown hgr (by
    rcases hl with e | e
    · exact .inl (by rw [e]; rfl)
    · exact .inr ⟨g, rfl, by omega⟩)
  have hm1 := P.at'.c.me
  have hblk : w5.heap[m]? = some (.cells (mCells cv H hb mb s left steps ov rv fv) 69 (0, 0)) := (hkk m P.at'.lt (by omega)).trans P.at'.blk
  have X5 : VmO w0 (w5.setCell ⟨m, 4, none⟩ (.slice (some ⟨g, 0, none⟩) (s.out ++ [x]).length cap)) (rol (fun b => (Value.slice (some ⟨g, 0, none⟩) (s.out ++ [x]).length cap).ownBlock = some b) 3 ρ) H m cv { s with out := s.out ++ [x] } left steps hb mb (.slice (some ⟨g, 0, none⟩) (s.out ++ [x]).length cap) rv fv cbs := by
    have hsize : (w5.setCell ⟨m, 4, none⟩ (.slice (some ⟨g, 0, none⟩) (s.out ++ [x]).length cap)).heap.size = w5.heap.size := by simp [World.setCell]
    have hlo := hC.lo m (by rw [hC.me]; decide)
    exact ⟨hC.keep (by rw [hsize]; exact Nat.le_refl _) (hC.below.setCell (p := ⟨m, 4, none⟩) hlo.1 _) fun b hb e => heap_setCell_other _ _ _ _ (fun e2 => by rw [e2, hC.me] at e; omega), heap_setCell_same _ m 4 _ _ _ hblk⟩
  rw [← hl2] at X5
  refine ⟨⟨_, X5, fun b h1 h2 h3 => (rol_no h3 (by omega)).trans h1⟩, ?_, frozen_of_row w5 m 4 _ _ hblk, (Array.getElem?_eq_some_iff.1 hblk).1, (hkk _ (by omega) (by have := P.r0; omega)).trans P.res, (hkk _ (by omega) (by have := P.r1; omega)).trans P.void, by omega, fun b h1 h2 => hgz b (by omega) (by omega), fun b h1 h2 => (hkk b (by omega) (by omega)).trans (P.below.block b h1)⟩
  exact cell_of_row w5 m 4 _ _ _ hblk
set_option maxHeartbeats 4000000 in
theorem prim_write (h : VmO w0 w ρ H m cv s left steps hb mb ov rv fv cbs) (a : List Hp.V) (aa : Option Addr) (na ca : Nat) (v : Hp.V) (g : Nat) (haa : aa = some ⟨g, 0, none⟩) (hna : 0 < na) (hg : g < w.heap.size) (hg0 : ρ g = 0) (hc : w.cell? ⟨g, 0, none⟩ = some (.int .i64 v.kind) ∧ w.cell? ⟨g, 1, none⟩ = some (.int .i64 v.int) ∧ w.cell? ⟨g, 2, none⟩ = some (.string v.text)) (hv : a.getD 0 Hp.none = v) (hk : v.kind = 1) (hi0 : 0 ≤ v.int) (hi1 : v.int ≤ 255) (hol : s.out.length ≤ 1000000) :
    Calls Try.prog 56 #[.pointer (some ⟨m, 0, none⟩), .string sWrite, .slice aa na ca] w (PrimPost w0 w ρ H m cv (prim s sWrite a).2 left steps hb mb rv fv cbs (prim s sWrite a).1) := by
  obtain ⟨w2, P⟩ := PrimAt.of h
  have hm := P.lt
  obtain ⟨z0, z1, z2, y0, y1, y2⟩ := Res3.of P.res
  obtain ⟨v0, v1, v2, _, _, _⟩ := Res3.of P.void
  have hm2 := P.at'.lt
  have hsz := P.size
  have hr2 : w.heap.size < w2.heap.size := by omega
  have hv2 : w.heap.size + 1 < w2.heap.size := by omega
  have hn1 : m ≠ w.heap.size := by omega
  have hn2 : w.heap.size ≠ m := by omega
  have hn3 : m ≠ w.heap.size + 1 := by omega
  have hn4 : w.heap.size + 1 ≠ m := by omega
  have HP := Lib.hid P
  have e : prim s sWrite a = (Hp.void, { s with out := s.out ++ [UInt8.ofNat v.int.toNat] }) := by unfold prim; rw [if_neg (by decide), if_pos rfl, hv, if_neg (by omega), if_neg (by omega)]
  rw [e]
  obtain ⟨a0, a1, a2⟩ := hc
  rw [← P.below.cell (p := ⟨g, 0, none⟩) hg] at a0
  rw [← P.below.cell (p := ⟨g, 1, none⟩) hg] at a1
  rw [← P.below.cell (p := ⟨g, 2, none⟩) hg] at a2
  have hg2 : g < w2.heap.size := by omega
  have hgm : g ≠ m := fun e => by have := h.c.me; rw [← e, hg0] at this; cases this
  have hmg : m ≠ g := fun e => hgm e.symm
  have hna' : (0 : Int) < na := by omega
  subst haa
  have q1 : (v.kind != 1) = false := by rw [hk]; rfl
  have q2 : decide (v.int < 0) = false := decide_eq_false (by omega)
  have q3 : decide ((255 : Int) < v.int) = false := decide_eq_false (by omega)
  obtain ⟨ao, co, rfl⟩ := own_slice h.c.out
  have c4 : w2.cell? ⟨m, 4, none⟩ = some (.slice ao s.out.length co) := P.at'.cell 4
  have f4 := P.at'.fz 4
  obtain ⟨i0, hi, hz0, hz1, hz2⟩ := info_parts infoU8
  have HI := Lib.hid hi
  have HZ0 := Lib.hid hz0
  have HZ1 := Lib.hid hz1
  have HZ2 := Lib.hid hz2
  have HA : Hid (Below w2.heap.size w2 (w2.drew.alloc (.cells #[.int .u8 (v.int % 256)] 5))) := ((Below.refl _ _).drew).alloc (Nat.le_refl _) _
  have HX2 := Lib.hid (P.at'.bel HA.out)
  have HSN := Lib.hid (bytes_snoc s.out v.int hi0 hi1)
  clear h P e hsz hv hi hz0 hz1 hz2 hk hi0 hi1
  unfold sWrite
  go_enter Try.func56, Try.ntmps56
  go_upto_region 2 with fail
  rw [← HP.out.eq]
  go_wp2_with fail
  go_region_law (first
    | (refine step_append_lies _ (by rfl) (.tmp 66) (.tmp 72) 65 (by rfl) 0 5 i0 _ 1 1 Try.underlying65 HI.out HZ0.out HZ1.out HZ2.out rfl (by decide) (.slice ao s.out.length co) s.out.length (bytes s.out) (by rfl) HX2.out.c.out ⟨w2.heap.size, 0, none⟩ 1 1 [.int .u8 (v.int % 256)] (by rfl) (by rfl) (new_cells _ (heap_alloc_new w2.drew _)) (by simp [Value.oneCell']) (by decide) (by simp only [maxLen]; omega) (by omega) (Nat.zero_le _) (w2.heap.size + 1) (by simp) ?_; intro g cap w5 hown hgr hl hlt; rw [← HSN.out] at hown; have HW := Lib.hid (WrAt.mk' (a0 := undef) (a1 := undef) (a2 := undef) HP.out hown hgr hl); have d4 := HW.out.cell; have e4 := HW.out.fz; have hm5 := HW.out.lt; obtain ⟨t0, t1, t2, u0, u1, u2⟩ := Res3.of HW.out.res; obtain ⟨x0, x1, x2, _, _, _⟩ := Res3.of HW.out.void; have hr5 := HW.out.rlt; clear hown hgr hl hlt)
    | fail)
  all_goals
    have hr6 : w.heap.size < w5.heap.size := by omega
    go_wp2_with fail
    refine bodyPost_ret (res1 rfl _ _ w.heap.size 64 _ (0, 0) rfl (three_set _ _ _ _ _ _ _ _ _ ((heap_setCell_other _ _ _ _ hn2).trans HW.out.res)) valD valSize) rfl ?_
    obtain ⟨ρ', X, h0⟩ := HW.out.at'
    refine ⟨rfl, ⟨ρ', _, ((X.store (h0 _ HP.out.r0 hr6 (HW.out.own _ (by omega) HP.out.r0)) HP.out.base 0 _).store (h0 _ HP.out.r0 hr6 (HW.out.own _ (by omega) HP.out.r0)) HP.out.base 1 _).store (h0 _ HP.out.r0 hr6 (HW.out.own _ (by omega) HP.out.r0)) HP.out.base 2 _, fun b h1 h2 => h0 b h2 (by omega) (HW.out.own b (by omega) h2)⟩, ?_, fun b h1 h2 => ?_⟩
    · simp [World.setCell]
      omega
    · have hb1 : b ≠ w.heap.size := by omega
      have hb2 : b ≠ m := fun e => by rw [e, HP.out.at'.c.me] at h2; cases h2
      rw [heap_setCell_other _ _ _ _ hb1, heap_setCell_other _ _ _ _ hb1, heap_setCell_other _ _ _ _ hb1, heap_setCell_other _ _ _ _ hb2]
      exact HW.out.kept b h1 h2
theorem ba_ne {p : ByteArray} {l : List UInt8} (h : p ≠ ⟨l.toArray⟩) : (p.toList == l) = false := by
  rw [beq_eq_false_iff_ne]
  intro e
  apply h
  rw [Lib.toList_data] at e
  obtain ⟨d⟩ := p
  rw [← e]
set_option maxHeartbeats 4000000 in
theorem prim_else (h : VmO w0 w ρ H m cv s left steps hb mb ov rv fv cbs) (p : ByteArray) (a : List Hp.V) (aa : Option Addr) (ca : Nat) (nsRead : p ≠ sRead) (nsWrite : p ≠ sWrite) (nsError : p ≠ sError) (nsWinders : p ≠ sWinders) (nsWind : p ≠ sWind)
    (ha : VSl w (.slice aa a.length ca) a) (hf : ∀ b, (Value.slice aa a.length ca).ownBlock = some b → ρ b ≠ 5) (hal : a.length ≤ 1000) (hT : s.T.length ≤ 1000000) (hP : Hp.FewQ s.T) (ht : Tx a) :
    Calls Try.prog 56 #[.pointer (some ⟨m, 0, none⟩), .string p, .slice aa a.length ca] w (PrimPost w0 w ρ H m cv (prim s p a).2 left steps hb mb rv fv cbs (prim s p a).1) := by
  obtain ⟨w2, P⟩ := PrimAt.of h
  have hm := P.lt
  obtain ⟨z0, z1, z2, y0, y1, y2⟩ := Res3.of P.res
  obtain ⟨v0, v1, v2, _, _, _⟩ := Res3.of P.void
  have hm2 := P.at'.lt
  have hsz := P.size
  have hr2 : w.heap.size < w2.heap.size := by omega
  have hv2 : w.heap.size + 1 < w2.heap.size := by omega
  have hn1 : m ≠ w.heap.size := by omega
  have hn2 : w.heap.size ≠ m := by omega
  have hn3 : m ≠ w.heap.size + 1 := by omega
  have hn4 : w.heap.size + 1 ≠ m := by omega
  have HP := Lib.hid P
  have e : prim s p a = ((Hp.doF s.T p a).1, { s with T := (Hp.doF s.T p a).2.2, e := (Hp.doF s.T p a).2.1 }) := by unfold prim; rw [if_neg nsRead, if_neg nsWrite, if_neg nsError, if_neg nsWinders, if_neg nsWind]
  rw [e]
  have hln := doF_len s.T p a
  have HDO := Lib.hid (hdo_any P.at'.c.heap p a _ (ha.below P.below (Nat.le_refl _)) hf hal hT hP ht)
  obtain ⟨r, er, T', hr⟩ : ∃ r er T', Hp.doF s.T p a = (r, er, T') := ⟨_, _, _, rfl⟩
  rw [hr] at HDO hln ⊢
  obtain ⟨rk, ri, rt⟩ := r
  unfold DoPost Hp.V.val at HDO
  dsimp only at HDO hln ⊢
  have qsRead : (p.toList == [114, 101, 97, 100, 45, 117, 56]) = false := ba_ne nsRead
  have qsWrite : (p.toList == [119, 114, 105, 116, 101, 45, 117, 56]) = false := ba_ne nsWrite
  have qsError : (p.toList == [101, 114, 114, 111, 114]) = false := ba_ne nsError
  have qsWinders : (p.toList == [37, 119, 105, 110, 100, 101, 114, 115]) = false := ba_ne nsWinders
  have qsWind : (p.toList == [37, 119, 105, 110, 100, 33]) = false := ba_ne nsWind
  have c1 : w2.cell? ⟨m, 1, none⟩ = some (.pointer (some ⟨hb, 0, none⟩)) := P.at'.cell 1
  clear h P e hsz hr ha hf nsRead nsWrite nsError nsWinders nsWind
  go_enter Try.func56, Try.ntmps56
  go_upto_region 2 with fail
  rw [← HP.out.eq]
  go_wp2_with fail
  with_reducible refine HDO.out.mono ?_
  rintro e w3 ⟨O', rfl, hst3, hgr3⟩
  have X3 := HP.out.at'.call hgr3 hst3 hln
  have hk3 : ∀ b, b < w2.heap.size → ρ b ≠ 5 → w3.heap[b]? = w2.heap[b]? ∧ rol O' 5 ρ b = ρ b := fun b h1 h2 => ⟨hgr3.block b h1 h2, rol_no (fun e => by rcases hgr3.own b e with e | e <;> omega) h2⟩
  obtain ⟨w4, B4⟩ := boxed w3 #[.int .i64 rk, .int .i64 ri, .string rt] 64
  have X4 := X3.bel B4.below
  have hs3 := hgr3.size
  have hs4 := B4.size
  have hk4 : ∀ b, b < w2.heap.size → ρ b ≠ 5 → w4.heap[b]? = w2.heap[b]? := fun b h1 h2 => (B4.below.block b (by omega)).trans (hk3 b h1 h2).1
  have hr4 := (hk4 w.heap.size hr2 (by have := HP.out.r0; omega)).trans HP.out.res
  obtain ⟨t0, t1, t2, u0, u1, u2⟩ := Res3.of hr4
  obtain ⟨x0, x1, x2, _, _, _⟩ := Res3.of B4.blk
  have d10 : w4.cell? ⟨m, 10, none⟩ = some (.int .i64 s.e) := X4.cell 10
  have e10 := X4.fz 10
  have hm4 := X4.lt
  have hr5 : w.heap.size < w4.heap.size := by omega
  have hv4 : w3.heap.size < w4.heap.size := by omega
  have hm3 : m < w3.heap.size := X3.lt
  have ha1 : m ≠ w3.heap.size := by omega
  have ha2 : w3.heap.size ≠ m := by omega
  have ha3 : w.heap.size ≠ w3.heap.size := by omega
  have ha4 : w3.heap.size ≠ w.heap.size := by omega
  have HX := Lib.hid (X4.set 10 (.int .i64 er) (s' := { s with T := T', e := er }) (left' := left) (steps' := steps) rfl rfl rfl rfl rfl rfl)
  have HB4 := Lib.hid B4
  have HR4 := Lib.hid hr4
  have HK3 := Lib.hid hk3
  have HK4 := Lib.hid hk4
  clear hst3 hgr3 X3 X4 B4 hr4 hk3 hk4
  go_upto_region 25 with fail
  rw [← HB4.out.eq]
  go_wp2_with fail
  refine bodyPost_ret (res1 rfl _ _ w.heap.size 64 _ (0, 0) rfl (three_set _ _ _ _ _ _ _ _ _ ((heap_setCell_other _ _ _ _ hn2).trans HR4.out)) valD valSize) rfl ?_
  have hz : ∀ b, b < w2.heap.size → ρ b = 0 → rol O' 5 ρ b = 0 := fun b h1 h2 => ((HK3.out b h1 (by omega)).2).trans h2
  exact prim_fin (r := ⟨rk, ri, rt⟩) HP.out HX.out (by simpa [World.setCell] using hr5) (hz _ hr2 HP.out.r0) fun b h1 h2 => ⟨hz b (by omega) h2, (heap_setCell_other _ _ _ _ fun e => by rw [e, HP.out.at'.c.me] at h2; cases h2).trans (HK4.out b (by omega) (by omega))⟩
end
end Vm
end Go.Proofs.Ytalfnaielhbocaa
namespace Go.Proofs.Ytalfnaielhbocaa
open Go.RowKit
set_option linter.unusedVariables false
set_option linter.unusedSimpArgs false
set_option maxRecDepth 100000
namespace Vm
section
variable {w0 w w' : World} {ρ ρ' : Nat → Nat} {H : Nat → Value} {m hb mb : Nat} {T : List Hp.Th} {C : List Cl} {out : List UInt8} {regs : List Hp.V} {frs : List Fr} {ov rv fv cv : Value} {cbs : List Nat} {s : St} {left steps : Nat}
theorem prim_any (h : VmO w0 w ρ H m cv s left steps hb mb ov rv fv cbs) (p : ByteArray) (a : List Hp.V) (aa : Option Addr) (ca B : Nat) (ha : w.ownsRow B 64 3 (.slice aa a.length ca) a.length (Hp.flatV a)) (h0 : ∀ b, (Value.slice aa a.length ca).ownBlock = some b → ρ b = 0)
    (hn : p = sWrite ∨ p = sWind → 0 < a.length) (hal : a.length ≤ 1000) (hT : s.T.length ≤ 1000000) (hP : Hp.FewQ s.T) (ht : Tx a) (hol : s.out.length ≤ 1000000) :
    Calls Try.prog 56 #[.pointer (some ⟨m, 0, none⟩), .string p, .slice aa a.length ca] w (PrimPost w0 w ρ H m cv (prim s p a).2 left steps hb mb rv fv cbs (prim s p a).1) := by
  have hfirst : 0 < a.length → ∃ v g, aa = some ⟨g, 0, none⟩ ∧ g < w.heap.size ∧ ρ g = 0 ∧ (w.cell? ⟨g, 0, none⟩ = some (.int .i64 v.kind) ∧ w.cell? ⟨g, 1, none⟩ = some (.int .i64 v.int) ∧ w.cell? ⟨g, 2, none⟩ = some (.string v.text)) ∧ a.getD 0 Hp.none = v := by
    intro hp
    have hx : a[0]? = some a[0] := List.getElem?_eq_getElem hp
    obtain ⟨g, c, e, _, hg, p0, p1, p2, _⟩ := own_part ha rfl hx
    cases e
    exact ⟨a[0], g, rfl, hg, h0 g rfl, ⟨p0, p1, p2⟩, by rw [List.getD_eq_getElem?_getD, hx]; rfl⟩
  by_cases e1 : p = sRead
  · subst e1
    cases hi : s.input with
    | nil => exact prim_read0 h a aa a.length ca hi
    | cons b l => exact prim_read1 h a aa a.length ca b l hi
  · by_cases e2 : p = sWrite
    · have hp := hn (.inl e2)
      subst e2
      obtain ⟨v, g, f1, f2, f3, f4, f5⟩ := hfirst hp
      by_cases hk : v.kind = 1
      · by_cases hi : v.int < 0
        · exact prim_write_low h a aa a.length ca v g f1 hp f2 f3 f4 f5 hk hi
        · by_cases hi2 : 255 < v.int
          · exact prim_write_high h a aa a.length ca v g f1 hp f2 f3 f4 f5 hk hi2
          · exact prim_write h a aa a.length ca v g f1 hp f2 f3 f4 f5 hk (by omega) (by omega) hol
      · exact prim_write_kind h a aa a.length ca v g f1 hp f2 f3 f4 f5 hk
    · by_cases e3 : p = sError
      · subst e3
        exact prim_error h a aa a.length ca
      · by_cases e4 : p = sWinders
        · subst e4
          exact prim_winders h a aa a.length ca
        · by_cases e5 : p = sWind
          · have hp := hn (.inr e5)
            subst e5
            obtain ⟨v, g, f1, f2, f3, f4, f5⟩ := hfirst hp
            exact prim_wind h a aa a.length ca v g f1 hp f2 f3 f4 f5
          · exact prim_else h p a aa ca e1 e2 e3 e4 e5 (VSl.own ha) (fun b e => by have := h0 b e; omega) hal hT hP ht
def StepPost (w0 w : World) (ρ : Nat → Nat) (m : Nat) (cv : Value) (s' : St) (left steps : Nat) (e : Ending) (w' : World) : Prop :=
  e = .returned (.tuple #[]) ∧ (∃ ρ' H hb mb ov rv fv cbs, VmO w0 w' ρ' H m cv s' left steps hb mb ov rv fv cbs ∧ ∀ b, b < w.heap.size → ρ b = 0 → ρ' b = 0 ∧ w'.heap[b]? = w.heap[b]?) ∧ w.heap.size ≤ w'.heap.size
def insV (x : Ins) (lv dl : Value) : Value := .agg #[.string x.op, .int .i64 x.to, lv, .int .i64 x.const.kind, .int .i64 x.const.int, .string x.const.text, dl, .int .i64 x.num]
structure DoIn (w0 w : World) (ρ : Nat → Nat) (H : Nat → Value) (m : Nat) (cv : Value) (s : St) (left steps hb mb : Nat) (ov rv fv : Value) (cbs : List Nat) (x : Ins) (lv dl : Value) : Prop where
  at' : VmO w0 w ρ H m cv s left steps hb mb ov rv fv cbs
  args : Sl w lv (ints x.args)
  inr : ∀ r ∈ x.args, 0 ≤ r ∧ r < s.regs.length
  few : x.args.length ≤ 1000
  frl : s.regs.length ≤ 2000
  dat : ∃ da dc, dl = .slice da x.const.list.length dc
structure DoAt (w0 w w2 : World) (ρ : Nat → Nat) (H : Nat → Value) (m : Nat) (cv : Value) (s : St) (left steps hb mb : Nat) (ov rv fv : Value) (cbs : List Nat) (x : Ins) (lv dl : Value) (a2 : Option Addr) (c2 : Nat) : Prop where
  at' : VmO w0 w2 ρ H m cv s left steps hb mb ov rv fv cbs
  below : Below w.heap.size w w2
  box : w2.heap[w.heap.size]? = some (.cells #[.string x.op, .int .i64 x.to, lv, .int .i64 x.const.kind, .int .i64 x.const.int, .string x.const.text, dl, .int .i64 x.num] 55 (0, 0))
  row : w2.ownsRow (w.heap.size + 1) 64 3 (.slice a2 x.args.length c2) x.args.length (Hp.flatV (vals s.regs x.args))
  zero : ∀ b, w.heap.size ≤ b → ρ b = 0
theorem DoAt.of {w1 w2 : World} {x : Ins} {lv dl : Value} {a2 : Option Addr} {c2 : Nat} (I : DoIn w0 w ρ H m cv s left steps hb mb ov rv fv cbs x lv dl) (B : Boxed w w1 #[.string x.op, .int .i64 x.to, lv, .int .i64 x.const.kind, .int .i64 x.const.int, .string x.const.text, dl, .int .i64 x.num] 55)
    (ho : w2.ownsRow w1.heap.size 64 3 (.slice a2 (vals s.regs x.args).length c2) (vals s.regs x.args).length (Hp.flatV (vals s.regs x.args))) (hb2 : Below w1.heap.size w1 w2) : DoAt w0 w w2 ρ H m cv s left steps hb mb ov rv fv cbs x lv dl a2 c2 := by
  have hs := B.size
  have hB : Below w.heap.size w w2 := B.below.trans (hb2.mono (by omega))
  rw [vals_length, hs] at ho
  exact ⟨I.at'.bel hB, hB, (hb2.block _ (by omega)).trans B.blk, ho, fun b hb => Decidable.byContradiction fun e => by have := (I.at'.c.lo _ e).2; omega⟩
theorem DoIn.vals {w1 : World} {x : Ins} {lv dl : Value} (I : DoIn w0 w ρ H m cv s left steps hb mb ov rv fv cbs x lv dl) (hB : Below w.heap.size w w1) : Calls Try.prog 54 #[.pointer (some ⟨m, 0, none⟩), lv] w1 (CloneV (Vm.vals s.regs x.args) w1) :=
  vals_any m rv s.regs lv x.args w1 ((I.at'.bel hB).cell 12) (I.at'.bel hB).c.regs (I.args.below hB (Nat.le_refl _)) I.inr I.few I.frl
theorem do_set {w2 w3 : World} {x : Ins} {lv dl : Value} {a2 : Option Addr} {c2 n cap g : Nat} {s3 s' : St} {ov3 fv3 : Value} {cbs3 : List Nat} {H3 : Nat → Value} {hb3 mb3 : Nat} (X : VmO w0 w3 ρ' H3 m cv s3 left steps hb3 mb3 ov3 (.slice (some ⟨g, 0, none⟩) n cap) fv3 cbs3) (hs : w.heap.size ≤ w3.heap.size)
    (hk : ∀ b, b < w.heap.size → ρ b = 0 → ρ' b = 0 ∧ w3.heap[b]? = w.heap[b]?) (r : Nat) (hr : r < s3.regs.length) (v : Hp.V) (hs' : s' = { s3 with regs := s3.regs.set r v }) (n' : Nat) :
    StepPost w0 w ρ m cv s' left steps (.returned (.tuple #[])) ((((w3.setCell ⟨g, r * 3, none⟩ (.int .i64 v.kind)).setCell ⟨g, r * 3 + 1, none⟩ (.int .i64 v.int)).setCell ⟨g, r * 3 + 2, none⟩ (.string v.text)).drewN n') := by
  have hg : ρ' g = 4 := X.c.regr g rfl
  refine ⟨rfl, ⟨ρ', H3, hb3, mb3, ov3, _, fv3, cbs3, (X.setReg r hr v hs').drew n', fun b h1 h2 => ⟨(hk b h1 h2).1, ?_⟩⟩, ?_⟩
  · have hb : b ≠ g := fun e => by have := (hk b h1 h2).1; rw [e, hg] at this; cases this
    show (((w3.setCell ⟨g, r * 3, none⟩ (.int .i64 v.kind)).setCell ⟨g, r * 3 + 1, none⟩ (.int .i64 v.int)).setCell ⟨g, r * 3 + 2, none⟩ (.string v.text)).heap[b]? = _
    rw [heap_setCell_other _ _ _ _ hb, heap_setCell_other _ _ _ _ hb, heap_setCell_other _ _ _ _ hb]
    exact (hk b h1 h2).2
  · show _ ≤ (((w3.setCell ⟨g, r * 3, none⟩ (.int .i64 v.kind)).setCell ⟨g, r * 3 + 1, none⟩ (.int .i64 v.int)).setCell ⟨g, r * 3 + 2, none⟩ (.string v.text)).heap.size
    simp [World.setCell]
    exact hs
set_option maxHeartbeats 4000000 in
theorem do_move {x : Ins} {lv dl : Value} (I : DoIn w0 w ρ H m cv s left steps hb mb ov rv fv cbs x lv dl) (hop : x.op = sMove) (hlen : x.args.length = 1) (hto : 0 ≤ x.to ∧ x.to < s.regs.length) :
    Calls Try.prog 38 #[.pointer (some ⟨m, 0, none⟩), insV x lv dl] w (StepPost w0 w ρ m cv (doI s x) left steps) := by
  obtain ⟨w1, B⟩ := boxed w #[.string x.op, .int .i64 x.to, lv, .int .i64 x.const.kind, .int .i64 x.const.int, .string x.const.text, dl, .int .i64 x.num] 55
  have HV := Lib.hid (I.vals B.below)
  have hE : doI s x = s.setR x.to ((vals s.regs x.args).getD 0 Hp.none) := by unfold doI; rw [if_neg (by rw [hop]; decide), if_pos hop]
  have HE := Lib.hid hE
  have HI := Lib.hid I
  have HB := Lib.hid B
  obtain ⟨al, cl, rfl⟩ := I.args.len
  obtain ⟨da, dc, rfl⟩ := I.dat
  obtain ⟨op, xt, args, const, num⟩ := x
  dsimp only at hop hlen hto
  subst hop
  obtain ⟨r, rfl⟩ : ∃ r : Nat, xt = r := ⟨xt.toNat, by omega⟩
  obtain ⟨y, hy⟩ : ∃ y, s.regs[r]? = some y := ⟨_, List.getElem?_eq_getElem (by omega)⟩
  obtain ⟨g, cg, rfl, _, hgl, _⟩ := own_part I.at'.c.regs rfl hy
  have hg4 : ρ g = 4 := I.at'.c.regr g rfl
  have hm := I.at'.lt
  clear I B hE
  unfold insV
  dsimp only
  unfold sMove at *
  go_enter Try.func38, Try.ntmps38
  go_wp2_with fail
  rw [← HB.out.eq]
  with_reducible refine HV.out.mono ?_
  rintro e w2 ⟨a2, c2, rfl, hown2, hb2⟩
  have D := DoAt.of HI.out HB.out hown2 hb2
  clear hown2 hb2
  try dsimp only at D
  have q0 := cell_of_row w2 w.heap.size 0 _ _ _ D.box
  have q1 := cell_of_row w2 w.heap.size 1 _ _ _ D.box
  have q7 := cell_of_row w2 w.heap.size 7 _ _ _ D.box
  simp only [List.getElem?_toArray, List.getElem?_cons_zero, List.getElem?_cons_succ] at q0 q1 q7
  have hq2 : w.heap.size < w2.heap.size := (Array.getElem?_eq_some_iff.1 D.box).1
  have hm2 := D.at'.lt
  have c12 : w2.cell? ⟨m, 12, none⟩ = some (.slice (some ⟨g, 0, none⟩) s.regs.length cg) := D.at'.cell 12
  obtain ⟨g', cg', eg, _, hgw, e0, e1, e2, f0, f1, f2⟩ := own_part D.at'.c.regs rfl hy
  cases eg
  have hgq : g ≠ w.heap.size := by omega
  have hqg : w.heap.size ≠ g := by omega
  have hgm : g ≠ m := fun e => by have := D.at'.c.me; rw [← e, hg4] at this; cases this
  have hmg : m ≠ g := fun e => hgm e.symm
  have hr0 : (0 : Int) ≤ r := by omega
  have hr1 : (r : Int) < s.regs.length := by omega
  obtain ⟨v, hv⟩ : ∃ v, (vals s.regs args)[0]? = some v := ⟨_, List.getElem?_eq_getElem (by rw [vals_length]; omega)⟩
  have hrow := D.row
  rw [← vals_length s.regs args] at hrow
  obtain ⟨ga, ca, ea, hga, hgal, a0, a1, a2', _⟩ := own_part hrow rfl hv
  cases ea
  rw [vals_length]
  rw [hlen]
  have HD := Lib.hid D
  have HVV : Hid ((vals s.regs args).getD 0 Hp.none = v) := by unfold Hid; rw [List.getD_eq_getElem?_getD, hv]; rfl
  clear D hrow hv hy
  go_wp2_with fail
  go_region
  go_wp2_with fail
  refine bodyPost_end (results_none rfl _ _ _) rfl ?_
  rw [HE.out, HVV.out]
  refine do_set (x := ⟨⟨#[]⟩, 0, [], .mk 0 0 ⟨#[]⟩ [], 0⟩) (lv := undef) (dl := undef) (a2 := none) (c2 := 0) (w2 := w) HD.out.at' HD.out.below.size (fun b h1 h2 => ⟨h2, HD.out.below.block b h1⟩) r (by omega) v rfl 1
end
end Vm
end Go.Proofs.Ytalfnaielhbocaa
namespace Go.Proofs.Ytalfnaielhbocaa
open Go.RowKit
set_option linter.unusedVariables false
set_option linter.unusedSimpArgs false
set_option maxRecDepth 100000
namespace Vm
theorem cell_set_block (w : World) (v : Value) {m b i j : Nat} (h : b ≠ m) : (w.setCell ⟨m, i, none⟩ v).cell? ⟨b, j, none⟩ = w.cell? ⟨b, j, none⟩ := World.cell?_of_block (a := ⟨b, j, none⟩) (heap_setCell_other _ _ _ _ h)
section
variable {w0 w w' : World} {ρ ρ' : Nat → Nat} {H : Nat → Value} {m hb mb : Nat} {T : List Hp.Th} {C : List Cl} {out : List UInt8} {regs : List Hp.V} {frs : List Fr} {ov rv fv cv : Value} {cbs : List Nat} {s : St} {left steps : Nat}
set_option maxHeartbeats 4000000 in
theorem do_held {x : Ins} {lv dl : Value} (I : DoIn w0 w ρ H m cv s left steps hb mb ov rv fv cbs x lv dl) (hop : x.op = sHeld) (hto : 0 ≤ x.to ∧ x.to < s.regs.length) {k : Cl} (hk : look s.cls s.cl = some k) (hn : 0 ≤ x.num ∧ x.num < k.held.length) :
    Calls Try.prog 38 #[.pointer (some ⟨m, 0, none⟩), insV x lv dl] w (StepPost w0 w ρ m cv (doI s x) left steps) := by
  obtain ⟨w1, B⟩ := boxed w #[.string x.op, .int .i64 x.to, lv, .int .i64 x.const.kind, .int .i64 x.const.int, .string x.const.text, dl, .int .i64 x.num] 55
  have HV := Lib.hid (I.vals B.below)
  have hE : doI s x = s.setR x.to (s.held.getD x.num.toNat Hp.none) := by unfold doI; rw [if_neg (by rw [hop]; decide), if_neg (by rw [hop]; decide), if_pos hop]
  have HE := Lib.hid hE
  have HI := Lib.hid I
  have HB := Lib.hid B
  obtain ⟨al, cl, rfl⟩ := I.args.len
  obtain ⟨da, dc, rfl⟩ := I.dat
  obtain ⟨op, xt, args, const, num⟩ := x
  dsimp only at hop hto hn
  subst hop
  obtain ⟨r, rfl⟩ : ∃ r : Nat, xt = r := ⟨xt.toNat, by omega⟩
  obtain ⟨y, hy⟩ : ∃ y, s.regs[r]? = some y := ⟨_, List.getElem?_eq_getElem (by omega)⟩
  obtain ⟨g, cg, rfl, _, hgl, _⟩ := own_part I.at'.c.regs rfl hy
  have hg4 : ρ g = 4 := I.at'.c.regr g rfl
  obtain ⟨n, rfl⟩ : ∃ n : Nat, num = n := ⟨num.toNat, by omega⟩
  obtain ⟨v, hv⟩ : ∃ v, k.held[n]? = some v := ⟨_, List.getElem?_eq_getElem (by omega)⟩
  obtain ⟨hkm, hkk⟩ := look_mem hk
  have hkey : k.key = s.cl := by omega
  have hm := I.at'.lt
  clear I B hE
  unfold insV
  dsimp only
  unfold sHeld at *
  go_enter Try.func38, Try.ntmps38
  go_wp2_with fail
  rw [← HB.out.eq]
  with_reducible refine HV.out.mono ?_
  rintro e w2 ⟨a2, c2, rfl, hown2, hb2⟩
  have D := DoAt.of HI.out HB.out hown2 hb2
  clear hown2 hb2
  try dsimp only at D
  have q0 := cell_of_row w2 w.heap.size 0 _ _ _ D.box
  have q1 := cell_of_row w2 w.heap.size 1 _ _ _ D.box
  have q7 := cell_of_row w2 w.heap.size 7 _ _ _ D.box
  simp only [List.getElem?_toArray, List.getElem?_cons_zero, List.getElem?_cons_succ] at q0 q1 q7
  have hq2 : w.heap.size < w2.heap.size := (Array.getElem?_eq_some_iff.1 D.box).1
  have hm2 := D.at'.lt
  have c12 : w2.cell? ⟨m, 12, none⟩ = some (.slice (some ⟨g, 0, none⟩) s.regs.length cg) := D.at'.cell 12
  obtain ⟨g', cg', eg, _, hgw, e0, e1, e2, f0, f1, f2⟩ := own_part D.at'.c.regs rfl hy
  cases eg
  have hgq : g ≠ w.heap.size := by omega
  have hqg : w.heap.size ≠ g := by omega
  have hgm : g ≠ m := fun e => by have := D.at'.c.me; rw [← e, hg4] at this; cases this
  have hmg : m ≠ g := fun e => hgm e.symm
  have hr0 : (0 : Int) ≤ r := by omega
  have hr1 : (r : Int) < s.regs.length := by omega
  obtain ⟨hrow, hrr, _, _, _⟩ := D.at'.c.held hkm
  obtain ⟨ga, ca, ea, hga, hgal, a0, a1, a2', _⟩ := own_part hrow rfl hv
  have c13 : w2.cell? ⟨m, 13, none⟩ = some (.slice (some ⟨ga, 0, none⟩) k.held.length ca) := by
    have := D.at'.cell 13
    rw [this]
    show some (H s.cl) = _
    rw [← hkey, ea]
  have hg7 : ρ ga = 7 + k.key := hrr ga (by rw [ea]; rfl)
  have hgag : ga ≠ g := fun e => by rw [e, hg4] at hg7; omega
  have hgga : g ≠ ga := fun e => hgag e.symm
  have hn0 : (0 : Int) ≤ n := by omega
  have hn1 : (n : Int) < k.held.length := by omega
  have HD := Lib.hid D
  have HVV : Hid (s.held.getD (n : Int).toNat Hp.none = v) := by
    unfold Hid St.held
    rw [hk, List.getD_eq_getElem?_getD, Int.toNat_natCast, hv]
    rfl
  clear D hrow hv hy ea hk hkm
  go_wp2_with fail
  go_region
  go_wp2_with fail
  refine bodyPost_end (results_none rfl _ _ _) rfl ?_
  rw [HE.out, HVV.out]
  exact do_set (x := ⟨⟨#[]⟩, 0, [], .mk 0 0 ⟨#[]⟩ [], 0⟩) (lv := undef) (dl := undef) (a2 := none) (c2 := 0) (w2 := w) HD.out.at' HD.out.below.size (fun b h1 h2 => ⟨h2, HD.out.below.block b h1⟩) r (by omega) v rfl 1
set_option maxHeartbeats 4000000 in
theorem do_closure {x : Ins} {lv dl : Value} (I : DoIn w0 w ρ H m cv s left steps hb mb ov rv fv cbs x lv dl) (hop : x.op = sClosure) (hto : 0 ≤ x.to ∧ x.to < s.regs.length) (hn : 0 ≤ x.num) (hT : s.T.length ≤ 1000000) (hcf : ∀ c ∈ s.cls, ∀ f ∈ c.frs, f.cl < s.T.length) (hff : ∀ f ∈ s.frs, f.cl < s.T.length) (hcl : s.cl < s.T.length) :
    Calls Try.prog 38 #[.pointer (some ⟨m, 0, none⟩), insV x lv dl] w (StepPost w0 w ρ m cv (doI s x) left steps) := by
  obtain ⟨w1, B⟩ := boxed w #[.string x.op, .int .i64 x.to, lv, .int .i64 x.const.kind, .int .i64 x.const.int, .string x.const.text, dl, .int .i64 x.num] 55
  have HV := Lib.hid (I.vals B.below)
  have hE : doI s x = (s.made x.num.toNat (vals s.regs x.args) false []).setR x.to s.newV := by unfold doI; rw [if_neg (by rw [hop]; decide), if_neg (by rw [hop]; decide), if_neg (by rw [hop]; decide), if_pos hop]
  have HE := Lib.hid hE
  have HI := Lib.hid I
  have HB := Lib.hid B
  obtain ⟨al, cl, rfl⟩ := I.args.len
  obtain ⟨da, dc, rfl⟩ := I.dat
  obtain ⟨op, xt, args, const, num⟩ := x
  dsimp only at hop hto hn
  subst hop
  obtain ⟨r, rfl⟩ : ∃ r : Nat, xt = r := ⟨xt.toNat, by omega⟩
  obtain ⟨y, hy⟩ : ∃ y, s.regs[r]? = some y := ⟨_, List.getElem?_eq_getElem (by omega)⟩
  obtain ⟨g, cg, rfl, _, hgl, _⟩ := own_part I.at'.c.regs rfl hy
  have hg4 : ρ g = 4 := I.at'.c.regr g rfl
  obtain ⟨n, rfl⟩ : ∃ n : Nat, num = n := ⟨num.toNat, by omega⟩
  have hm := I.at'.lt
  clear I B hE
  unfold insV
  dsimp only
  unfold sClosure at *
  go_enter Try.func38, Try.ntmps38
  go_wp2_with fail
  rw [← HB.out.eq]
  with_reducible refine HV.out.mono ?_
  rintro e w2 ⟨a2, c2, rfl, hown2, hb2⟩
  have D := DoAt.of HI.out HB.out hown2 hb2
  clear hown2 hb2
  try dsimp only at D
  have q0 := cell_of_row w2 w.heap.size 0 _ _ _ D.box
  have q1 := cell_of_row w2 w.heap.size 1 _ _ _ D.box
  have q7 := cell_of_row w2 w.heap.size 7 _ _ _ D.box
  simp only [List.getElem?_toArray, List.getElem?_cons_zero, List.getElem?_cons_succ] at q0 q1 q7
  have hq2 : w.heap.size < w2.heap.size := (Array.getElem?_eq_some_iff.1 D.box).1
  have hm2 := D.at'.lt
  have c12 : w2.cell? ⟨m, 12, none⟩ = some (.slice (some ⟨g, 0, none⟩) s.regs.length cg) := D.at'.cell 12
  obtain ⟨g', cg', eg, _, hgw, e0, e1, e2, f0, f1, f2⟩ := own_part D.at'.c.regs rfl hy
  cases eg
  have hgq : g ≠ w.heap.size := by omega
  have hqg : w.heap.size ≠ g := by omega
  have hgm : g ≠ m := fun e => by have := D.at'.c.me; rw [← e, hg4] at this; cases this
  have hmg : m ≠ g := fun e => hgm e.symm
  have hr0 : (0 : Int) ≤ r := by omega
  have hr1 : (r : Int) < s.regs.length := by omega
  have hmin : MadeIn w0 w2.drew ρ H m cv s left steps hb mb ov (.slice (some ⟨g, 0, none⟩) s.regs.length cg) fv cbs n (vals s.regs args) false [] (.slice a2 args.length c2) (.pointer none) := by
    have hrow := D.row
    rw [← vals_length s.regs args] at hrow
    refine ⟨D.at'.drew 1, own_drewN ?_ 1, fun b e => ?_, .nil, hT, hcf, hff, (fun f hf => nomatch hf), fun e => absurd e (Nat.ne_of_lt hcl)⟩
    · rw [vals_length] at hrow ⊢
      exact hrow.mono (Nat.zero_le _)
    · have := (D.row.lt b e).1
      exact ⟨D.zero b (by omega), by have := HI.out.at'.c.below.size; omega⟩
  have HM := Lib.hid (made_any hmin)
  have HD := Lib.hid D
  have HF : Hid (w2.cell? ⟨m, 12, none⟩ = some (.slice (some ⟨g, 0, none⟩) s.regs.length cg) ∧ w2.cell? ⟨w.heap.size, 1, none⟩ = some (.int .i64 r) ∧ w2.cell? ⟨w.heap.size, 7, none⟩ = some (.int .i64 n)) := ⟨c12, q1, q7⟩
  rw [vals_length]
  clear D hy hmin
  unfold MadePost St.newV Hp.V.val at HM
  dsimp only at HM
  go_wp2_with fail
  go_region_held3 (fun w' => w'.cell? ⟨m, 12, none⟩ = some (.slice (some ⟨g, 0, none⟩) s.regs.length cg) ∧ w'.cell? ⟨w.heap.size, 1, none⟩ = some (.int .i64 r) ∧ w'.cell? ⟨w.heap.size, 7, none⟩ = some (.int .i64 n))
    (first | exact HF.out | exact HF2.out | exact HF3.out _ _ _)
    (first
      | (go_at_call 23; (with_reducible refine HM.out.mono ?_); rintro e w3 ⟨rfl, ⟨ρ', H', hX, hz⟩, hsz, hkp⟩; have HX := Lib.hid hX; have HZ := Lib.hid hz; have HKP := Lib.hid hkp; have hs3 := hsz; have d12 : w3.cell? ⟨m, 12, none⟩ = some (.slice (some ⟨g, 0, none⟩) s.regs.length cg) := hX.cell 12; have hqb := (hkp w.heap.size hq2 (HD.out.zero _ (Nat.le_refl _))).trans HD.out.box; have t1 := cell_of_row w3 w.heap.size 1 _ _ _ hqb; have t7 := cell_of_row w3 w.heap.size 7 _ _ _ hqb; simp only [List.getElem?_toArray, List.getElem?_cons_zero, List.getElem?_cons_succ] at t1 t7; have HF2 := Lib.hid (And.intro d12 (And.intro t1 t7)); have hy3 : s.regs[r]? = some (s.regs[r]'(by omega)) := List.getElem?_eq_getElem _; obtain ⟨g'', cg'', eg3, _, hgw3, j0, j1, j2, l0, l1, l2⟩ := own_part hX.c.regs rfl hy3; cases eg3; have HF3 : Hid (∀ u0 u1 u2 : Value, (((w3.setCell ⟨g, r * 3, none⟩ u0).setCell ⟨g, r * 3 + 1, none⟩ u1).setCell ⟨g, r * 3 + 2, none⟩ u2).cell? ⟨m, 12, none⟩ = some (.slice (some ⟨g, 0, none⟩) s.regs.length cg) ∧ (((w3.setCell ⟨g, r * 3, none⟩ u0).setCell ⟨g, r * 3 + 1, none⟩ u1).setCell ⟨g, r * 3 + 2, none⟩ u2).cell? ⟨w.heap.size, 1, none⟩ = some (.int .i64 r) ∧ (((w3.setCell ⟨g, r * 3, none⟩ u0).setCell ⟨g, r * 3 + 1, none⟩ u1).setCell ⟨g, r * 3 + 2, none⟩ u2).cell? ⟨w.heap.size, 7, none⟩ = some (.int .i64 n)) := fun u0 u1 u2 => ⟨(cell_set_block _ _ hmg).trans ((cell_set_block _ _ hmg).trans ((cell_set_block _ _ hmg).trans d12)), (cell_set_block _ _ hqg).trans ((cell_set_block _ _ hqg).trans ((cell_set_block _ _ hqg).trans t1)), (cell_set_block _ _ hqg).trans ((cell_set_block _ _ hqg).trans ((cell_set_block _ _ hqg).trans t7))⟩; clear hX hz hkp hqb hsz hy3))
  all_goals
    go_wp2_with fail
    refine bodyPost_end (results_none rfl _ _ _) rfl ?_
    rw [HE.out]
    exact do_set (x := ⟨⟨#[]⟩, 0, [], .mk 0 0 ⟨#[]⟩ [], 0⟩) (lv := undef) (dl := undef) (a2 := none) (c2 := 0) (w2 := w) HX.out (Nat.le_trans HD.out.below.size hs3) (fun b h1 h2 => ⟨HZ.out b (Nat.lt_of_lt_of_le h1 HD.out.below.size) h2 (fun e => by have := (HD.out.row.lt b e).1; omega), (HKP.out b (Nat.lt_of_lt_of_le h1 HD.out.below.size) h2).trans (HD.out.below.block b h1)⟩) r (by show r < s.regs.length; omega) ⟨8, s.T.length, ⟨#[]⟩⟩ rfl 0
end
end Vm
end Go.Proofs.Ytalfnaielhbocaa
namespace Go.Proofs.Ytalfnaielhbocaa
open Go.RowKit
set_option linter.unusedVariables false
set_option linter.unusedSimpArgs false
set_option maxRecDepth 100000
namespace Vm
section
variable {w0 w w' : World} {ρ ρ' : Nat → Nat} {H : Nat → Value} {m hb mb : Nat} {T : List Hp.Th} {C : List Cl} {out : List UInt8} {regs : List Hp.V} {frs : List Fr} {ov rv fv cv : Value} {cbs : List Nat} {s : St} {left steps : Nat}
def TellIn (s : St) : Prop := ∀ f fs, s.frs = f :: fs → f.to < f.regs.length ∧ f.regs.length ≤ 2000 ∧ ∃ k ∈ s.cls, k.key = f.cl
theorem tell_any (h : VmO w0 w ρ H m cv s left steps hb mb ov rv fv cbs) (hT : TellIn s) (v : Hp.V) :
    Calls Try.prog 34 #[.pointer (some ⟨m, 0, none⟩), v.val] w fun e w' => e = .returned (.tuple #[]) ∧ VmAt w0 w' m cv (tell s v) left steps := by
  cases hf : s.frs with
  | nil => exact tell_nil h hf v
  | cons f fs =>
    obtain ⟨h1, h2, k, hk, hkf⟩ := hT f fs hf
    exact tell_cons h hf h1 h2 hk hkf v
def CallPost (w0 : World) (m : Nat) (cv : Value) (s' : St) (left steps : Nat) (e : Ending) (w' : World) : Prop := e = .returned (.tuple #[]) ∧ VmAt w0 w' m cv s' left steps
structure CallAt (w0 w w2 : World) (ρ : Nat → Nat) (H : Nat → Value) (m : Nat) (cv : Value) (s : St) (left steps hb mb : Nat) (ov rv fv : Value) (cbs : List Nat) (a : List Hp.V) (aa : Option Addr) (ca : Nat) : Prop where
  at' : VmO w0 w2 ρ H m cv s left steps hb mb ov rv fv cbs
  row : w2.ownsRow 0 64 3 (.slice aa a.length ca) a.length (Hp.flatV a)
  free : ∀ b, (Value.slice aa a.length ca).ownBlock = some b → b ≠ m
  le : w.heap.size ≤ w2.heap.size
theorem CallAt.of {w1 w2 : World} {a : List Hp.V} {aa : Option Addr} {ca : Nat} (h : VmO w0 w ρ H m cv s left steps hb mb ov rv fv cbs) (ha : w.ownsRow 0 64 3 (.slice aa a.length ca) a.length (Hp.flatV a)) (h0 : ∀ b, (Value.slice aa a.length ca).ownBlock = some b → b ≠ m)
    (h1 : Below w.heap.size w w1) (h2 : Below w1.heap.size w1 w2) : CallAt w0 w w2 ρ H m cv s left steps hb mb ov rv fv cbs a aa ca := by
  have hB : Below w.heap.size w w2 := h1.trans (h2.mono h1.size)
  exact ⟨h.bel hB, own_same ha fun b e => hB.block b (ha.lt b e).2, h0, hB.size⟩
set_option maxHeartbeats 2000000 in
theorem call_none (h : VmO w0 w ρ H m cv s left steps hb mb ov rv fv cbs) (v : Hp.V) (a : List Hp.V) (aa : Option Addr) (ca : Nat) (c : Code) (hf : find s.cls v = none) :
    Calls Try.prog 22 #[.pointer (some ⟨m, 0, none⟩), v.val, .slice aa a.length ca] w (CallPost w0 m cv (call c s v a) left steps) := by
  obtain ⟨w1, B⟩ := boxed w #[.int .i64 v.kind, .int .i64 v.int, .string v.text] 64
  have HB := Lib.hid B
  have H1 := h.bel B.below
  have HC := Lib.hid (closure_any H1 v)
  have hE : call c s v a = { s with e := 90 } := by unfold call; rw [hf]
  have hm := h.lt
  have HH := Lib.hid H1
  unfold Hp.V.val at *
  rw [hE]
  clear h B H1 hE
  go_enter Try.func22, Try.ntmps22
  go_wp2_with fail
  rw [← HB.out.eq]
  with_reducible refine HC.out.mono ?_
  rintro e w2 ⟨⟨rr, rfl, hcr⟩, hb2⟩
  rw [hf] at hcr
  have hcr2 : rr = .pointer none := hcr
  subst hcr2
  have X := HH.out.bel hb2
  have c10 : w2.cell? ⟨m, 10, none⟩ = some (.int .i64 s.e) := X.cell 10
  have f10 := X.fz 10
  have hm2 := X.lt
  have HX := Lib.hid (X.set 10 (.int .i64 90) (s' := { s with e := 90 }) (left' := left) (steps' := steps) rfl rfl rfl rfl rfl rfl)
  clear hcr hb2 X hf
  go_wp2_with fail
  refine bodyPost_end (results_none rfl _ _ _) rfl ?_
  exact ⟨rfl, _, _, _, _, _, _, _, _, HX.out⟩
set_option maxHeartbeats 2000000 in
theorem call_kont (h : VmO w0 w ρ H m cv s left steps hb mb ov rv fv cbs) (v : Hp.V) (x : Hp.V) (aa : Option Addr) (ca : Nat) (c : Code) {k : Cl} (hf : find s.cls v = some k) (hk : k.kont = true) (hT : TellIn { s with frs := k.frs })
    (ha : w.ownsRow 0 64 3 (.slice aa 1 ca) 1 (Hp.flatV [x])) (h0 : ∀ b, (Value.slice aa 1 ca).ownBlock = some b → b ≠ m) :
    Calls Try.prog 22 #[.pointer (some ⟨m, 0, none⟩), v.val, .slice aa 1 ca] w (CallPost w0 m cv (call c s v [x]) left steps) := by
  obtain ⟨w1, B⟩ := boxed w #[.int .i64 v.kind, .int .i64 v.int, .string v.text] 64
  have HB := Lib.hid B
  have H1 := h.bel B.below
  have HC := Lib.hid (closure_any H1 v)
  have hE : call c s v [x] = tell { s with frs := k.frs } x := by unfold call; rw [hf]; dsimp only; rw [if_pos ⟨hk, rfl⟩]; rfl
  have hm := h.lt
  have HH := Lib.hid h
  have HA := Lib.hid ha
  unfold Hp.V.val at *
  rw [hE]
  clear h B H1 hE
  go_enter Try.func22, Try.ntmps22
  go_wp2_with fail
  rw [← HB.out.eq]
  with_reducible refine HC.out.mono ?_
  rintro e w2 ⟨⟨rr, rfl, hcr⟩, hb2⟩
  rw [hf] at hcr
  obtain ⟨i, cb, hi, hcb, rfl⟩ := hcr
  have A := CallAt.of (a := [x]) HH.out HA.out h0 HB.out.below hb2
  have hcl := A.at'.c.cls i k cb hi hcb
  obtain ⟨fvk, hblk, hfra⟩ := hcl.blk
  obtain ⟨fp, rfl⟩ := hfra.ptr
  have hcbl : cb < w2.heap.size := (Array.getElem?_eq_some_iff.1 hblk).1
  have k2 := cell_of_row w2 cb 2 _ _ _ hblk
  have k3 := cell_of_row w2 cb 3 _ _ _ hblk
  simp only [List.getElem?_toArray, List.getElem?_cons_zero, List.getElem?_cons_succ] at k2 k3
  rw [hk] at k2
  have c15 : w2.cell? ⟨m, 15, none⟩ = some fv := A.at'.cell 15
  obtain ⟨fq, rfl⟩ := A.at'.c.frs.ptr
  have f15 := A.at'.fz 15
  have hm2 := A.at'.lt
  obtain ⟨ga, ca', ea, _, hgal, a0, a1, a2, _⟩ := own_part (j := 0) (x := x) A.row rfl rfl
  have ea : Value.slice aa 1 ca = .slice (some ⟨ga, 0, none⟩) 1 ca' := ea
  cases ea
  have hgm : ga ≠ m := A.free ga rfl
  have hmg : m ≠ ga := fun e => hgm e.symm
  have hcbm : cb ≠ m := fun e => by have := A.at'.c.me; rw [← e, hcl.role] at this; cases this
  have hmcb : m ≠ cb := fun e => hcbm e.symm
  have X3 := A.at'.set2 (s' := { s with frs := k.frs }) (left' := left) (steps' := steps) (fv' := .pointer fp) (ov' := ov) (rv' := rv) (H' := H) (cbs' := cbs) (A.at'.c.setFrs hfra) 15 (.pointer fp) rfl
  have HT := Lib.hid (tell_any X3 hT x)
  unfold Hp.V.val at HT
  clear hcl hblk hfra hi hcb hf A X3 hb2
  go_wp2_with fail
  with_reducible refine HT.out.mono ?_
  rintro e w4 ⟨rfl, hV⟩
  go_wp2_with fail
  refine bodyPost_end (results_none rfl _ _ _) rfl ?_
  exact ⟨rfl, hV⟩
end
end Vm
end Go.Proofs.Ytalfnaielhbocaa
namespace Go.Proofs.Ytalfnaielhbocaa
open Go.RowKit
set_option linter.unusedVariables false
set_option linter.unusedSimpArgs false
set_option maxRecDepth 100000
namespace Vm
theorem code_at {w0 w : World} {cv : Value} {c : Code} {q : Nat} {p : Prc} (hc : CodeAt w0 cv c) (hq : c[q]? = some p) (hb : Below w0.heap.size w0 w) : ∃ bc oc cap, cv = .slice (some ⟨bc, oc, none⟩) c.length cap ∧ bc < w0.heap.size ∧ PrcC w p bc (oc + q * 4) := by
  obtain ⟨a, cap, rfl⟩ := hc.len
  obtain ⟨_, bc, oc, rfl, hl, hp⟩ := hc.at hq
  exact ⟨bc, oc, cap, rfl, hl, hp.bel hb hl⟩
theorem rep_row {w : World} {n cr B : Nat} {ar : Option Addr} {v : Hp.V} (h : w.ownsRow B 64 3 (.slice ar n cr) n (Hp.flatV (List.replicate n v))) : w.ownsRow 0 64 3 (.slice ar n cr) (List.replicate n v).length (Hp.flatV (List.replicate n v)) := by
  have e : (List.replicate n v).length = n := List.length_replicate
  rw [e]
  exact h.mono (Nat.zero_le _)
theorem two_size0 (w : World) (o : Obj) : (w.alloc o).drew.heap.size = w.heap.size + 1 := by
  show (w.alloc o).heap.size = _
  simp
section
variable {w0 w w' : World} {ρ ρ' : Nat → Nat} {H : Nat → Value} {m hb mb : Nat} {T : List Hp.Th} {C : List Cl} {out : List UInt8} {regs : List Hp.V} {frs : List Fr} {ov rv fv cv : Value} {cbs : List Nat} {s : St} {left steps : Nat}
set_option maxHeartbeats 2000000 in
theorem call_count (h : VmO w0 w ρ H m cv s left steps hb mb ov rv fv cbs) (v : Hp.V) (a : List Hp.V) (aa : Option Addr) (ca : Nat) (c : Code) (hcode : CodeAt w0 cv c) {k : Cl} {p : Prc} (hf : find s.cls v = some k) (hk : k.kont = false) (hp : c[k.proc]? = some p) (hal : (a.length : Int) ≠ p.params) :
    Calls Try.prog 22 #[.pointer (some ⟨m, 0, none⟩), v.val, .slice aa a.length ca] w (CallPost w0 m cv (call c s v a) left steps) := by
  obtain ⟨w1, B⟩ := boxed w #[.int .i64 v.kind, .int .i64 v.int, .string v.text] 64
  have HB := Lib.hid B
  have H1 := h.bel B.below
  have HC := Lib.hid (closure_any H1 v)
  have hE : call c s v a = { s with e := 91 } := by unfold call; rw [hf]; dsimp only; rw [if_neg (by rw [hk]; simp), hp]; dsimp only; rw [if_pos (.inr hal)]
  have hm := h.lt
  have HH := Lib.hid H1
  unfold Hp.V.val at *
  rw [hE]
  clear h B H1 hE
  go_enter Try.func22, Try.ntmps22
  go_wp2_with fail
  rw [← HB.out.eq]
  with_reducible refine HC.out.mono ?_
  rintro e w2 ⟨⟨rr, rfl, hcr⟩, hb2⟩
  rw [hf] at hcr
  obtain ⟨i, cb, hi, hcb, rfl⟩ := hcr
  have X := HH.out.bel hb2
  have hcl := X.c.cls i k cb hi hcb
  obtain ⟨fvk, hblk, hfra⟩ := hcl.blk
  have hcbl : cb < w2.heap.size := (Array.getElem?_eq_some_iff.1 hblk).1
  have k0 := cell_of_row w2 cb 0 _ _ _ hblk
  have k2 := cell_of_row w2 cb 2 _ _ _ hblk
  simp only [List.getElem?_toArray, List.getElem?_cons_zero, List.getElem?_cons_succ] at k0 k2
  rw [hk] at k2
  obtain ⟨bc, oc, cap, rfl, hbc, hP⟩ := code_at hcode hp X.c.below
  have n0 := hP.c0
  have c0 : w2.cell? ⟨m, 0, none⟩ = some (.slice (some ⟨bc, oc, none⟩) c.length cap) := X.cell 0
  have c10 : w2.cell? ⟨m, 10, none⟩ = some (.int .i64 s.e) := X.cell 10
  have f10 := X.fz 10
  have hm2 := X.lt
  have hbc2 : bc < w2.heap.size := Nat.lt_of_lt_of_le hbc X.c.below.size
  have hkl : k.proc < c.length := (List.getElem?_eq_some_iff.1 hp).1
  have hk1 : (0 : Int) ≤ k.proc := by omega
  have hk2 : (k.proc : Int) < c.length := by omega
  have g1 : ((a.length : Int) != p.params) = true := by rw [bne_iff_ne]; exact hal
  have HX := Lib.hid (X.set 10 (.int .i64 91) (s' := { s with e := 91 }) (left' := left) (steps' := steps) rfl rfl rfl rfl rfl rfl)
  clear hb2 X hf hcl hblk hfra hP hi hcb hal
  go_wp2_with fail
  go_quiet (fail)
  go_wp2_with fail
  refine bodyPost_end (results_none rfl _ _ _) rfl ?_
  exact ⟨rfl, _, _, _, _, _, _, _, _, HX.out.drew _⟩
set_option maxHeartbeats 2000000 in
theorem call_many (h : VmO w0 w ρ H m cv s left steps hb mb ov rv fv cbs) (v : Hp.V) (a : List Hp.V) (aa : Option Addr) (ca : Nat) (c : Code) {k : Cl} (hf : find s.cls v = some k) (hk : k.kont = true) (hal : a.length ≠ 1) (hE : call c s v a = { s with e := 91 }) :
    Calls Try.prog 22 #[.pointer (some ⟨m, 0, none⟩), v.val, .slice aa a.length ca] w (CallPost w0 m cv (call c s v a) left steps) := by
  obtain ⟨w1, B⟩ := boxed w #[.int .i64 v.kind, .int .i64 v.int, .string v.text] 64
  have HB := Lib.hid B
  have H1 := h.bel B.below
  have HC := Lib.hid (closure_any H1 v)
  have hm := h.lt
  have HH := Lib.hid H1
  unfold Hp.V.val at *
  rw [hE]
  clear h B H1 hE
  go_enter Try.func22, Try.ntmps22
  go_wp2_with fail
  rw [← HB.out.eq]
  with_reducible refine HC.out.mono ?_
  rintro e w2 ⟨⟨rr, rfl, hcr⟩, hb2⟩
  rw [hf] at hcr
  obtain ⟨i, cb, hi, hcb, rfl⟩ := hcr
  have X := HH.out.bel hb2
  have hcl := X.c.cls i k cb hi hcb
  obtain ⟨fvk, hblk, hfra⟩ := hcl.blk
  have hcbl : cb < w2.heap.size := (Array.getElem?_eq_some_iff.1 hblk).1
  have k2 := cell_of_row w2 cb 2 _ _ _ hblk
  simp only [List.getElem?_toArray, List.getElem?_cons_zero, List.getElem?_cons_succ] at k2
  rw [hk] at k2
  have c10 : w2.cell? ⟨m, 10, none⟩ = some (.int .i64 s.e) := X.cell 10
  have f10 := X.fz 10
  have hm2 := X.lt
  have g1 : ((a.length : Int) == 1) = false := beq_eq_false_iff_ne.2 (by omega)
  have g2 : (a.length == 1) = false := beq_eq_false_iff_ne.2 hal
  have HX := Lib.hid (X.set 10 (.int .i64 91) (s' := { s with e := 91 }) (left' := left) (steps' := steps) rfl rfl rfl rfl rfl rfl)
  clear hb2 X hf hcl hblk hfra hi hcb
  go_wp2_with fail
  go_quiet (fail)
  go_wp2_with fail
  refine bodyPost_end (results_none rfl _ _ _) rfl ?_
  exact ⟨rfl, _, _, _, _, _, _, _, _, HX.out.drew _⟩
theorem VmO.regsIn {regs' : List Hp.V} (h : VmO w0 w ρ H m cv s left steps hb mb ov rv fv cbs) (hR : w'.ownsRow 0 64 3 rv regs'.length (Hp.flatV regs')) (hg : w.grownBy w' rv.ownBlock) : VmO w0 w' ρ H m cv { s with regs := regs' } left steps hb mb ov rv fv cbs := by
  have hkk : ∀ b, b < w.heap.size → ρ b ≠ 4 → w'.heap[b]? = w.heap[b]? := fun b h1 h2 => hg.block b h1 fun e => h2 (h.c.regr b e.symm)
  have hme := h.c.me
  obtain ⟨o1, o2⟩ := h.c.outK (w' := w') (ρ' := ρ) fun b hb e => ⟨hkk b hb (by omega), e⟩
  have hB : Below w0.heap.size w0 w' := ⟨hg.os.trans h.c.below.os, hg.tape.trans h.c.below.tape, hg.output.trans h.c.below.output, Nat.le_trans h.c.below.size hg.size, fun b hb => (hg.block b (Nat.lt_of_lt_of_le hb h.c.below.size) fun e => by have := h.c.lo b (by rw [h.c.regr b e.symm]; decide); omega).trans (h.c.below.block b hb)⟩
  refine ⟨h.c.turn hg.size hB hme (fun b e => ⟨(h.c.lo b e).1, Nat.lt_of_lt_of_le (h.c.lo b e).2 hg.size⟩) (fun b hb e => ⟨hkk b hb (by omega), rfl⟩) (h.c.heapK hg.size (fun b hb e => ⟨hkk b hb (by omega), e⟩) fun b e => Nat.lt_of_lt_of_le (h.c.lo b (by omega)).2 hg.size) (Nat.le_refl _) o1 o2 hR h.c.regr, ?_⟩
  rw [hkk m h.lt (by omega)]
  exact h.blk
theorem set_keep {w4 w5 : World} {i : Nat} {u : Value} (h : w5 = w4.setCell ⟨m, i, none⟩ u) : ∀ b, b ≠ m → w5.heap[b]? = w4.heap[b]? := fun b hb => by
  rw [h]
  exact heap_setCell_other _ _ _ _ hb
theorem fresh_row {w4 : World} {B n : Nat} {dv : Value} {xs : List Value} (h : VmO w0 w ρ H m cv s left steps hb mb ov rv fv cbs) (hr : w4.ownsRow B 64 3 dv n xs) (hB : w.heap.size ≤ B) : ∀ q, dv.ownBlock = some q → ρ q = 0 ∧ w0.heap.size ≤ q := fun q e => by
  have h1 := (hr.lt q e).1
  refine ⟨Decidable.byContradiction fun h0 => ?_, Nat.le_trans h.c.below.size (Nat.le_trans hB h1)⟩
  have := (h.c.lo q h0).2
  omega
set_option maxHeartbeats 8000000 in
theorem call_fun (h : VmO w0 w ρ H m cv s left steps hb mb ov rv fv cbs) (v : Hp.V) (a : List Hp.V) (aa : Option Addr) (ca : Nat) (c : Code) (hcode : CodeAt w0 cv c) {k : Cl} {p : Prc} (hf : find s.cls v = some k) (hk : k.kont = false) (hp : c[k.proc]? = some p) (hal : (a.length : Int) = p.params) (hpr : p.params ≤ p.regs) (hpr2 : p.regs ≤ 2000)
    (ha : w.ownsRow 0 64 3 (.slice aa a.length ca) a.length (Hp.flatV a)) (h0 : ∀ b, (Value.slice aa a.length ca).ownBlock = some b → b ≠ m) :
    Calls Try.prog 22 #[.pointer (some ⟨m, 0, none⟩), v.val, .slice aa a.length ca] w (CallPost w0 m cv (call c s v a) left steps) := by
  obtain ⟨w1, B⟩ := boxed w #[.int .i64 v.kind, .int .i64 v.int, .string v.text] 64
  have HB := Lib.hid B
  have H1 := h.bel B.below
  have HC := Lib.hid (closure_any H1 v)
  obtain ⟨n, hn⟩ : ∃ n : Nat, p.regs = n := ⟨p.regs.toNat, by omega⟩
  have hE : call c s v a = { s with proc := k.proc, cl := k.key, block := 0, pos := 0, regs := a ++ List.replicate (n - a.length) unset } := by unfold call; rw [hf]; dsimp only; rw [if_neg (by rw [hk]; simp), hp]; dsimp only; rw [if_neg (by rw [hk]; simp; exact hal), hn]; rfl
  have hm := h.lt
  have HH := Lib.hid h
  have HA := Lib.hid ha
  unfold Hp.V.val at *
  rw [hE]
  clear h B H1 hE ha
  go_enter Try.func22, Try.ntmps22
  go_wp2_with fail
  rw [← HB.out.eq]
  with_reducible refine HC.out.mono ?_
  rintro e w2 ⟨⟨rr, rfl, hcr⟩, hb2⟩
  rw [hf] at hcr
  obtain ⟨i, cb, hi, hcb, rfl⟩ := hcr
  have A := CallAt.of HH.out HA.out h0 HB.out.below hb2
  have X := A.at'
  have hcl := X.c.cls i k cb hi hcb
  obtain ⟨fvk, hblk, hfra⟩ := hcl.blk
  obtain ⟨ah, ch, hH⟩ := own_slice hcl.row
  have hcbl : cb < w2.heap.size := (Array.getElem?_eq_some_iff.1 hblk).1
  have k0 := cell_of_row w2 cb 0 _ _ _ hblk
  have k1 := cell_of_row w2 cb 1 _ _ _ hblk
  have k2 := cell_of_row w2 cb 2 _ _ _ hblk
  simp only [List.getElem?_toArray, List.getElem?_cons_zero, List.getElem?_cons_succ] at k0 k1 k2
  rw [hk] at k2
  rw [hH] at k1
  obtain ⟨bc, oc, cap, rfl, hbc, hP⟩ := code_at hcode hp X.c.below
  have n0 := hP.c0
  have n2 := hP.c2
  rw [hn] at n2
  have c0 : w2.cell? ⟨m, 0, none⟩ = some (.slice (some ⟨bc, oc, none⟩) c.length cap) := X.cell 0
  have c11 : w2.cell? ⟨m, 11, none⟩ = some (.int .i64 s.proc) := X.cell 11
  have c13 : w2.cell? ⟨m, 13, none⟩ = some (H s.cl) := X.cell 13
  have c14 : w2.cell? ⟨m, 14, none⟩ = some (.int .i64 s.block) := X.cell 14
  have f11 := X.fz 11
  have f13 := X.fz 13
  have f14 := X.fz 14
  have hm2 := X.lt
  have hbc2 : bc < w2.heap.size := Nat.lt_of_lt_of_le hbc X.c.below.size
  have hkl : k.proc < c.length := (List.getElem?_eq_some_iff.1 hp).1
  have hk1 : (0 : Int) ≤ k.proc := by omega
  have hk2 : (k.proc : Int) < c.length := by omega
  have g1 : ((a.length : Int) != p.params) = false := by rw [hal]; simp
  have hm0 : w0.heap.size ≤ m := (X.c.lo m (by rw [X.c.me]; decide)).1
  have hbcm : bc ≠ m := by omega
  have hmbc : m ≠ bc := by omega
  have hcbm : cb ≠ m := fun e => by have := X.c.me; rw [← e, hcl.role] at this; cases this
  have hmcb : m ≠ cb := fun e => hcbm e.symm
  have HX := Lib.hid X
  have HROW := Lib.hid A.row
  have HFREE := Lib.hid A.free
  have HBLK := Lib.hid hblk
  clear X A hf hcl hblk hfra hP hi hcb hb2
  go_wp2_with fail
  go_quiet (fail)
  go_wp2_with fail
  have X' := HX.out.drew nq
  have hrow' := own_drewN HROW.out nq
  have hblk' : (w2.drewN nq).heap[cb]? = _ := HBLK.out
  have n2' : (w2.drewN nq).cell? ⟨bc, oc + k.proc * 4 + 2, none⟩ = some (.int .i64 n) := n2
  obtain ⟨wq, hwq⟩ : ∃ x, x = w2.drewN nq := ⟨_, rfl⟩
  rw [← hwq] at X' hrow' hblk' n2' ⊢
  have hk0' := cell_of_row wq cb 0 _ _ _ hblk'
  have hk1' := cell_of_row wq cb 1 _ _ _ hblk'
  simp only [List.getElem?_toArray, List.getElem?_cons_zero, List.getElem?_cons_succ] at hk0' hk1'
  rw [hH] at hk1'
  have q11 : wq.cell? ⟨m, 11, none⟩ = some (.int .i64 s.proc) := X'.cell 11
  have q13 : wq.cell? ⟨m, 13, none⟩ = some (H s.cl) := X'.cell 13
  have q14 : wq.cell? ⟨m, 14, none⟩ = some (.int .i64 s.block) := X'.cell 14
  have r11 := X'.fz 11
  have r13 := X'.fz 13
  have r14 := X'.fz 14
  have hmq := X'.lt
  have hcbq : cb < wq.heap.size := (Array.getElem?_eq_some_iff.1 hblk').1
  -- behind the first stores
  have Y := (((X'.set 11 (.int .i64 k.proc) (s' := { s with proc := k.proc }) (left' := left) (steps' := steps) rfl rfl rfl rfl rfl rfl).set 13 (H k.key) (s' := { s with proc := k.proc, cl := k.key }) (left' := left) (steps' := steps) rfl rfl rfl rfl rfl rfl).set 14 (.int .i64 0) (s' := { s with proc := k.proc, cl := k.key, block := 0 }) (left' := left) (steps' := steps) rfl rfl rfl rfl rfl rfl).drew 1
  rw [hH] at Y
  obtain ⟨w3, hw3⟩ : ∃ w3, w3 = (((wq.setCell ⟨m, 11, none⟩ (.int .i64 k.proc)).setCell ⟨m, 13, none⟩ (.slice ah k.held.length ch)).setCell ⟨m, 14, none⟩ (.int .i64 0)).drew := ⟨_, rfl⟩
  have Y3 : VmO w0 w3 ρ H m (.slice (some ⟨bc, oc, none⟩) c.length cap) { s with proc := k.proc, cl := k.key, block := 0 } left steps hb mb ov rv fv cbs := by
    rw [hw3]
    exact Y
  have hw3k : ∀ b, b ≠ m → w3.heap[b]? = wq.heap[b]? := fun b hb => by
    rw [hw3]
    show (((wq.setCell ⟨m, 11, none⟩ _).setCell ⟨m, 13, none⟩ _).setCell ⟨m, 14, none⟩ _).heap[b]? = _
    rw [heap_setCell_other _ _ _ _ hb, heap_setCell_other _ _ _ _ hb, heap_setCell_other _ _ _ _ hb]
  have HW3 := Lib.hid hw3
  have hrow3 := own_same hrow' fun b e => hw3k b (HFREE.out b e)
  have d0 : w3.cell? ⟨m, 0, none⟩ = some (.slice (some ⟨bc, oc, none⟩) c.length cap) := Y3.cell 0
  have d12 : w3.cell? ⟨m, 12, none⟩ = some rv := Y3.cell 12
  have g12 := Y3.fz 12
  have hblk3 := (hw3k cb hcbm).trans hblk'
  have l0 : w3.cell? ⟨cb, 0, none⟩ = some (.int .i64 k.proc) := cell_of_row w3 cb 0 _ _ _ hblk3
  have u2 : w3.cell? ⟨bc, oc + k.proc * 4 + 2, none⟩ = some (.int .i64 n) := (World.cell?_of_block (a := ⟨bc, oc + k.proc * 4 + 2, none⟩) (hw3k bc hbcm)).trans n2'
  have hm3 := Y3.lt
  have hcb3 : cb < w3.heap.size := (Array.getElem?_eq_some_iff.1 hblk3).1
  have hbc3 : bc < w3.heap.size := block_lt_of_cell u2
  have HY3 := Lib.hid Y3
  have HR3 := Lib.hid hrow3
  have HF : Hid (w3.cell? ⟨m, 0, none⟩ = some (.slice (some ⟨bc, oc, none⟩) c.length cap) ∧ w3.cell? ⟨cb, 0, none⟩ = some (.int .i64 k.proc) ∧ w3.cell? ⟨bc, oc + k.proc * 4 + 2, none⟩ = some (.int .i64 n)) := ⟨d0, l0, u2⟩
  have HFA : Hid (∀ o, (w3.alloc o).cell? ⟨m, 0, none⟩ = some (.slice (some ⟨bc, oc, none⟩) c.length cap) ∧ (w3.alloc o).cell? ⟨cb, 0, none⟩ = some (.int .i64 k.proc) ∧ (w3.alloc o).cell? ⟨bc, oc + k.proc * 4 + 2, none⟩ = some (.int .i64 n)) := fun o => ⟨alloc_at o d0, alloc_at o l0, alloc_at o u2⟩
  have HREP : Hid (Calls Try.prog 35 #[.slice (some ⟨w3.heap.size, 0, none⟩) 1 1, .int .i64 n] (w3.alloc (.cells #[.int .i64 7, .int .i64 0, .string ⟨#[]⟩] 64)).drew (RepPost n ⟨7, 0, ⟨#[]⟩⟩ ((w3.alloc (.cells #[.int .i64 7, .int .i64 0, .string ⟨#[]⟩] 64)).drew))) := repeat_wide ⟨7, 0, ⟨#[]⟩⟩ n (by omega) w3.heap.size _ (heap_alloc_new w3 _)
  unfold RepPost at HREP
  clear X' Y Y3 hw3 hw3k hrow3 hblk3 hrow' hblk' hwq
  go_region
  rw [← HW3.out]
  go_wp2_with fail
  go_region_held3 (fun w' => w'.cell? ⟨m, 0, none⟩ = some (.slice (some ⟨bc, oc, none⟩) c.length cap) ∧ w'.cell? ⟨cb, 0, none⟩ = some (.int .i64 k.proc) ∧ w'.cell? ⟨bc, oc + k.proc * 4 + 2, none⟩ = some (.int .i64 n))
    (first | exact HF.out | exact HFA.out _ | exact HF4.out | exact HF5.out)
    (first
      | (go_at_call 35; (with_reducible refine HREP.out.mono ?_); rintro e w4 ⟨ar, cr, rfl, hown4, hb4⟩; have hb34 : Below w3.heap.size w3 w4 := (((Below.refl _ _).alloc (Nat.le_refl _) _).drew).trans (hb4.mono (by rw [two_size0]; omega)); have HO4 := Lib.hid hown4; have HB4 := Lib.hid hb34; have Y4 := HY3.out.bel hb34; have d04 : w4.cell? ⟨m, 0, none⟩ = some (.slice (some ⟨bc, oc, none⟩) c.length cap) := Y4.cell 0; have l04 := (hb34.cell (p := ⟨cb, 0, none⟩) hcb3).trans l0; have u24 := (hb34.cell (p := ⟨bc, oc + k.proc * 4 + 2, none⟩) hbc3).trans u2; have HF4 := Lib.hid (And.intro d04 (And.intro l04 u24)); have d124 : w4.cell? ⟨m, 12, none⟩ = some rv := Y4.cell 12; have g124 := Y4.fz 12; have hm4 := Y4.lt; obtain ⟨w5, hw5⟩ : ∃ w5, w5 = w4.setCell ⟨m, 12, none⟩ (.slice ar n cr) := ⟨_, rfl⟩; have hown0 : w4.ownsRow 0 64 3 (.slice ar n cr) (List.replicate n (⟨7, 0, ⟨#[]⟩⟩ : Hp.V)).length (Hp.flatV (List.replicate n (⟨7, 0, ⟨#[]⟩⟩ : Hp.V))) := rep_row hown4; have hfresh := fresh_row HY3.out hown4 (by rw [two_size0]; exact Nat.le_succ _); have Y5 := Y4.set2 (s' := { s with proc := k.proc, cl := k.key, block := 0, regs := List.replicate n ⟨7, 0, ⟨#[]⟩⟩ }) (left' := left) (steps' := steps) (fv' := fv) (ov' := ov) (rv' := .slice ar n cr) (H' := H) (cbs' := cbs) (Y4.c.newRegs hown0 hfresh) 12 (.slice ar n cr) rfl; rw [← hw5] at Y5; have HY5 := Lib.hid Y5; have d05 : w5.cell? ⟨m, 0, none⟩ = some (.slice (some ⟨bc, oc, none⟩) c.length cap) := Y5.cell 0; have d125 : w5.cell? ⟨m, 12, none⟩ = some (.slice ar n cr) := Y5.cell 12; have hw5k := set_keep hw5; have l05 := (World.cell?_of_block (a := ⟨cb, 0, none⟩) (hw5k cb hcbm)).trans l04; have u25 := (World.cell?_of_block (a := ⟨bc, oc + k.proc * 4 + 2, none⟩) (hw5k bc hbcm)).trans u24; have HF5 := Lib.hid (And.intro d05 (And.intro l05 u25)); have hrow5 := own_same HR3.out fun b e => (hw5k b (HFREE.out b e)).trans (hb34.block b (HR3.out.lt b e).2); have HR5 := Lib.hid hrow5; rw [hw5] at HF5; have HW5 := Lib.hid hw5; have hm5 := Y5.lt; clear hown4 hb4 hb34 Y4 Y5 hown0 hfresh hw5k hrow5 hw5))
  all_goals
    rw [← HW5.out]
    go_wp2_with (refine wpList_copy_vals rfl (.tmp 48) (.tmp 49) rfl (B := 0) (dv := .slice ar n cr) (rs := List.replicate n ⟨7, 0, ⟨#[]⟩⟩) (a := a) (aa := aa) (ca := ca) rfl rfl ?g1 ?g2 ?g3 ?_; (case g1 => (have := HY5.out.c.regs; exact this)); (case g2 => exact VSl.own HR5.out); (case g3 => (rw [List.length_replicate]; omega)); intro w6 hown6 hgr6; have HO6 := Lib.hid hown6; have HG6 := Lib.hid hgr6; clear hown6 hgr6)
    go_wp2_with fail
    refine bodyPost_end (results_none rfl _ _ _) rfl ?_
    have hown6 := HO6.out
    have hlen6 : (List.replicate n (⟨7, 0, ⟨#[]⟩⟩ : Hp.V)).length = (a ++ List.replicate (n - a.length) unset).length := by
      rw [List.length_append, List.length_replicate, List.length_replicate]; omega
    have hdr : a ++ (List.replicate n (⟨7, 0, ⟨#[]⟩⟩ : Hp.V)).drop a.length = a ++ List.replicate (n - a.length) unset := by
      rw [List.drop_replicate]; rfl
    rw [hdr, hlen6] at hown6
    exact ⟨rfl, _, _, _, _, _, _, _, _, (HY5.out.regsIn hown6 HG6.out).pos 0⟩
end
end Vm
end Go.Proofs.Ytalfnaielhbocaa
namespace Go.Proofs.Ytalfnaielhbocaa
open Go.RowKit
set_option linter.unusedVariables false
set_option linter.unusedSimpArgs false
set_option maxRecDepth 100000
namespace Vm
section
variable {w0 w w' : World} {ρ ρ' : Nat → Nat} {H : Nat → Value} {m hb mb : Nat} {T : List Hp.Th} {C : List Cl} {out : List UInt8} {regs : List Hp.V} {frs : List Fr} {ov rv fv cv : Value} {cbs : List Nat} {s : St} {left steps : Nat}
set_option maxHeartbeats 4000000 in
theorem do_const {x : Ins} {lv dl : Value} (I : DoIn w0 w ρ H m cv s left steps hb mb ov rv fv cbs x lv dl) (hop : x.op = sConst) (hto : 0 ≤ x.to ∧ x.to < s.regs.length) (hd : DtAt w (fun _ => True) (.agg #[.int .i64 x.const.kind, .int .i64 x.const.int, .string x.const.text, dl]) x.const) (hf : Dt.Fit x.const) :
    Calls Try.prog 38 #[.pointer (some ⟨m, 0, none⟩), insV x lv dl] w (StepPost w0 w ρ m cv (doI s x) left steps) := by
  obtain ⟨w1, B⟩ := boxed w #[.string x.op, .int .i64 x.to, lv, .int .i64 x.const.kind, .int .i64 x.const.int, .string x.const.text, dl, .int .i64 x.num] 55
  have HV := Lib.hid (I.vals B.below)
  have hE : doI s x = s.setR x.to (constF x.const).1 := by unfold doI; rw [if_pos hop]
  have HE := Lib.hid hE
  have HI := Lib.hid I
  have HB := Lib.hid B
  obtain ⟨al, cl, rfl⟩ := I.args.len
  obtain ⟨da, dc, rfl⟩ := I.dat
  obtain ⟨op, xt, args, const, num⟩ := x
  dsimp only at hop hto hd hf
  subst hop
  obtain ⟨r, rfl⟩ : ∃ r : Nat, xt = r := ⟨xt.toNat, by omega⟩
  obtain ⟨y, hy⟩ : ∃ y, s.regs[r]? = some y := ⟨_, List.getElem?_eq_getElem (by omega)⟩
  obtain ⟨g, cg, rfl, _, hgl, _⟩ := own_part I.at'.c.regs rfl hy
  have hg4 : ρ g = 4 := I.at'.c.regr g rfl
  have hm := I.at'.lt
  clear I B hE
  unfold insV
  dsimp only
  unfold sConst at *
  go_enter Try.func38, Try.ntmps38
  go_wp2_with fail
  rw [← HB.out.eq]
  with_reducible refine HV.out.mono ?_
  rintro e w2 ⟨a2, c2, rfl, hown2, hb2⟩
  have D := DoAt.of HI.out HB.out hown2 hb2
  clear hown2 hb2
  try dsimp only at D
  have q0 := cell_of_row w2 w.heap.size 0 _ _ _ D.box
  have q1 := cell_of_row w2 w.heap.size 1 _ _ _ D.box
  have q7 := cell_of_row w2 w.heap.size 7 _ _ _ D.box
  simp only [List.getElem?_toArray, List.getElem?_cons_zero, List.getElem?_cons_succ] at q0 q1 q7
  have hq2 : w.heap.size < w2.heap.size := (Array.getElem?_eq_some_iff.1 D.box).1
  have hm2 := D.at'.lt
  have c12 : w2.cell? ⟨m, 12, none⟩ = some (.slice (some ⟨g, 0, none⟩) s.regs.length cg) := D.at'.cell 12
  obtain ⟨g', cg', eg, _, hgw, e0, e1, e2, f0, f1, f2⟩ := own_part D.at'.c.regs rfl hy
  cases eg
  have hgq : g ≠ w.heap.size := by omega
  have hqg : w.heap.size ≠ g := by omega
  have hgm : g ≠ m := fun e => by have := D.at'.c.me; rw [← e, hg4] at this; cases this
  have hmg : m ≠ g := fun e => hgm e.symm
  have hr0 : (0 : Int) ≤ r := by omega
  have hr1 : (r : Int) < s.regs.length := by omega
  have hdw := hd.bel D.below (Nat.le_refl _)
  have q3 := cell_of_row w2 w.heap.size 3 _ _ _ D.box
  have q4 := cell_of_row w2 w.heap.size 4 _ _ _ D.box
  have q5 := cell_of_row w2 w.heap.size 5 _ _ _ D.box
  have q6 := cell_of_row w2 w.heap.size 6 _ _ _ D.box
  simp only [List.getElem?_toArray, List.getElem?_cons_zero, List.getElem?_cons_succ] at q3 q4 q5 q6
  have HM := Lib.hid (dconst_any const _ w2.drew (hdw.bel ((Below.refl _ _).drew) (Nat.le_refl _)) hf)
  have HD := Lib.hid D
  have HF : Hid (w2.cell? ⟨m, 12, none⟩ = some (.slice (some ⟨g, 0, none⟩) s.regs.length cg) ∧ w2.cell? ⟨w.heap.size, 1, none⟩ = some (.int .i64 r) ∧ w2.cell? ⟨w.heap.size, 3, none⟩ = some (.int .i64 const.kind) ∧ w2.cell? ⟨w.heap.size, 3 + 1, none⟩ = some (.int .i64 const.int) ∧ w2.cell? ⟨w.heap.size, 3 + 2, none⟩ = some (.string const.text) ∧ w2.cell? ⟨w.heap.size, 3 + 3, none⟩ = some (.slice da const.list.length dc)) := ⟨c12, q1, q3, q4, q5, q6⟩
  rw [vals_length]
  clear D hy hd hdw
  unfold CnPost at HM
  obtain ⟨⟨rk, ri, rt⟩, rb, hr⟩ : ∃ v b, constF const = (v, b) := ⟨_, _, rfl⟩
  have HR := Lib.hid hr
  rw [hr] at HM
  dsimp only at HM
  clear hr
  go_wp2_with fail
  go_region_held3 (fun w' => w'.cell? ⟨m, 12, none⟩ = some (.slice (some ⟨g, 0, none⟩) s.regs.length cg) ∧ w'.cell? ⟨w.heap.size, 1, none⟩ = some (.int .i64 r) ∧ w'.cell? ⟨w.heap.size, 3, none⟩ = some (.int .i64 const.kind) ∧ w'.cell? ⟨w.heap.size, 3 + 1, none⟩ = some (.int .i64 const.int) ∧ w'.cell? ⟨w.heap.size, 3 + 2, none⟩ = some (.string const.text) ∧ w'.cell? ⟨w.heap.size, 3 + 3, none⟩ = some (.slice da const.list.length dc))
    (first | exact HF.out | exact HF2.out | exact HF3.out _ _ _)
    (first
      | (go_at_call 55; (with_reducible refine HM.out.mono ?_); rintro e w3 ⟨rfl, hb3'⟩; have hb3 : Below w2.heap.size w2 w3 := ((Below.refl _ _).drew).trans hb3'; have hX := HD.out.at'.bel hb3; have HX := Lib.hid hX; have d12 : w3.cell? ⟨m, 12, none⟩ = some (.slice (some ⟨g, 0, none⟩) s.regs.length cg) := hX.cell 12; have hqb := (hb3.block w.heap.size hq2).trans HD.out.box; have t1 := cell_of_row w3 w.heap.size 1 _ _ _ hqb; have t3 := cell_of_row w3 w.heap.size 3 _ _ _ hqb; have t4 := cell_of_row w3 w.heap.size 4 _ _ _ hqb; have t5 := cell_of_row w3 w.heap.size 5 _ _ _ hqb; have t6 := cell_of_row w3 w.heap.size 6 _ _ _ hqb; simp only [List.getElem?_toArray, List.getElem?_cons_zero, List.getElem?_cons_succ] at t1 t3 t4 t5 t6; have HF2 := Lib.hid (And.intro d12 (And.intro t1 (And.intro t3 (And.intro t4 (And.intro t5 t6))))); have hy3 : s.regs[r]? = some (s.regs[r]'(by omega)) := List.getElem?_eq_getElem _; obtain ⟨g'', cg'', eg3, _, hgw3, j0, j1, j2, l0, l1, l2⟩ := own_part hX.c.regs rfl hy3; cases eg3; have HF3 : Hid (∀ u0 u1 u2 : Value, (((w3.setCell ⟨g, r * 3, none⟩ u0).setCell ⟨g, r * 3 + 1, none⟩ u1).setCell ⟨g, r * 3 + 2, none⟩ u2).cell? ⟨m, 12, none⟩ = some (.slice (some ⟨g, 0, none⟩) s.regs.length cg) ∧ (((w3.setCell ⟨g, r * 3, none⟩ u0).setCell ⟨g, r * 3 + 1, none⟩ u1).setCell ⟨g, r * 3 + 2, none⟩ u2).cell? ⟨w.heap.size, 1, none⟩ = some (.int .i64 r) ∧ (((w3.setCell ⟨g, r * 3, none⟩ u0).setCell ⟨g, r * 3 + 1, none⟩ u1).setCell ⟨g, r * 3 + 2, none⟩ u2).cell? ⟨w.heap.size, 3, none⟩ = some (.int .i64 const.kind) ∧ (((w3.setCell ⟨g, r * 3, none⟩ u0).setCell ⟨g, r * 3 + 1, none⟩ u1).setCell ⟨g, r * 3 + 2, none⟩ u2).cell? ⟨w.heap.size, 3 + 1, none⟩ = some (.int .i64 const.int) ∧ (((w3.setCell ⟨g, r * 3, none⟩ u0).setCell ⟨g, r * 3 + 1, none⟩ u1).setCell ⟨g, r * 3 + 2, none⟩ u2).cell? ⟨w.heap.size, 3 + 2, none⟩ = some (.string const.text) ∧ (((w3.setCell ⟨g, r * 3, none⟩ u0).setCell ⟨g, r * 3 + 1, none⟩ u1).setCell ⟨g, r * 3 + 2, none⟩ u2).cell? ⟨w.heap.size, 3 + 3, none⟩ = some (.slice da const.list.length dc)) := fun u0 u1 u2 => ⟨(cell_set_block _ _ hmg).trans ((cell_set_block _ _ hmg).trans ((cell_set_block _ _ hmg).trans d12)), (cell_set_block _ _ hqg).trans ((cell_set_block _ _ hqg).trans ((cell_set_block _ _ hqg).trans t1)), (cell_set_block _ _ hqg).trans ((cell_set_block _ _ hqg).trans ((cell_set_block _ _ hqg).trans t3)), (cell_set_block _ _ hqg).trans ((cell_set_block _ _ hqg).trans ((cell_set_block _ _ hqg).trans t4)), (cell_set_block _ _ hqg).trans ((cell_set_block _ _ hqg).trans ((cell_set_block _ _ hqg).trans t5)), (cell_set_block _ _ hqg).trans ((cell_set_block _ _ hqg).trans ((cell_set_block _ _ hqg).trans t6))⟩; have HB3 := Lib.hid hb3; clear hX hb3 hb3' hqb hy3))
  all_goals
    go_wp2_with fail
    refine bodyPost_end (results_none rfl _ _ _) rfl ?_
    rw [HE.out, HR.out]
    exact do_set (x := ⟨⟨#[]⟩, 0, [], .mk 0 0 ⟨#[]⟩ [], 0⟩) (lv := undef) (dl := undef) (a2 := none) (c2 := 0) (w2 := w) HX.out (Nat.le_trans HD.out.below.size HB3.out.size) (fun b h1 h2 => ⟨h2, (HB3.out.block b (Nat.lt_of_lt_of_le h1 HD.out.below.size)).trans (HD.out.below.block b h1)⟩) r (by omega) ⟨rk, ri, rt⟩ rfl 0
set_option maxHeartbeats 4000000 in
theorem do_else {x : Ins} {lv dl : Value} (I : DoIn w0 w ρ H m cv s left steps hb mb ov rv fv cbs x lv dl) (h1 : x.op ≠ sConst) (h2 : x.op ≠ sMove) (h3 : x.op ≠ sHeld) (h4 : x.op ≠ sClosure) (h5 : x.op ≠ sTie) (hto : 0 ≤ x.to ∧ x.to < s.regs.length) (hwr : x.op = sWrite ∨ x.op = sWind → 0 < x.args.length) (hT : s.T.length ≤ 1000000) (hP : Hp.FewQ s.T) (htx : Tx s.regs) (hol : s.out.length ≤ 1000000) :
    Calls Try.prog 38 #[.pointer (some ⟨m, 0, none⟩), insV x lv dl] w (StepPost w0 w ρ m cv (doI s x) left steps) := by
  obtain ⟨w1, B⟩ := boxed w #[.string x.op, .int .i64 x.to, lv, .int .i64 x.const.kind, .int .i64 x.const.int, .string x.const.text, dl, .int .i64 x.num] 55
  have HV := Lib.hid (I.vals B.below)
  have hE : doI s x = if (prim s x.op (vals s.regs x.args)).2.e = 0 then (prim s x.op (vals s.regs x.args)).2.setR x.to (prim s x.op (vals s.regs x.args)).1 else (prim s x.op (vals s.regs x.args)).2 := by unfold doI; rw [if_neg h1, if_neg h2, if_neg h3, if_neg h4, if_neg h5]
  have HE := Lib.hid hE
  have HI := Lib.hid I
  have HB := Lib.hid B
  obtain ⟨al, cl, rfl⟩ := I.args.len
  obtain ⟨da, dc, rfl⟩ := I.dat
  obtain ⟨op, xt, args, const, num⟩ := x
  dsimp only at h1 h2 h3 h4 h5 hto hwr
  obtain ⟨r, rfl⟩ : ∃ r : Nat, xt = r := ⟨xt.toNat, by omega⟩
  obtain ⟨y, hy⟩ : ∃ y, s.regs[r]? = some y := ⟨_, List.getElem?_eq_getElem (by omega)⟩
  obtain ⟨g, cg, rfl, _, hgl, _⟩ := own_part I.at'.c.regs rfl hy
  have hg4 : ρ g = 4 := I.at'.c.regr g rfl
  have qq1 : (op.toList == [99, 111, 110, 115, 116]) = false := ba_ne h1
  have qq2 : (op.toList == [109, 111, 118, 101]) = false := ba_ne h2
  have qq3 : (op.toList == [104, 101, 108, 100]) = false := ba_ne h3
  have qq4 : (op.toList == [99, 108, 111, 115, 117, 114, 101]) = false := ba_ne h4
  have qq5 : (op.toList == [116, 105, 101]) = false := ba_ne h5
  clear h1 h2 h3 h4 h5
  have hm := I.at'.lt
  clear I B hE
  unfold insV
  dsimp only
  go_enter Try.func38, Try.ntmps38
  go_wp2_with fail
  rw [← HB.out.eq]
  with_reducible refine HV.out.mono ?_
  rintro e w2 ⟨a2, c2, rfl, hown2, hb2⟩
  have D := DoAt.of HI.out HB.out hown2 hb2
  clear hown2 hb2
  try dsimp only at D
  have hrow := D.row
  rw [← vals_length s.regs args] at hrow
  have HP := Lib.hid (prim_any D.at' op (Vm.vals s.regs args) a2 c2 _ hrow (fun b e => D.zero b (by have := (hrow.lt b e).1; omega)) (fun e => by rw [vals_length]; exact hwr e) (by rw [vals_length]; exact HI.out.few) hT hP (htx.vals args) hol)
  have q0 := cell_of_row w2 w.heap.size 0 _ _ _ D.box
  have q1 := cell_of_row w2 w.heap.size 1 _ _ _ D.box
  have q7 := cell_of_row w2 w.heap.size 7 _ _ _ D.box
  simp only [List.getElem?_toArray, List.getElem?_cons_zero, List.getElem?_cons_succ] at q0 q1 q7
  have hq2 : w.heap.size < w2.heap.size := (Array.getElem?_eq_some_iff.1 D.box).1
  have hm2 := D.at'.lt
  have c12 : w2.cell? ⟨m, 12, none⟩ = some (.slice (some ⟨g, 0, none⟩) s.regs.length cg) := D.at'.cell 12
  obtain ⟨g', cg', eg, _, hgw, e0, e1, e2, f0, f1, f2⟩ := own_part D.at'.c.regs rfl hy
  cases eg
  have hgq : g ≠ w.heap.size := by omega
  have hqg : w.heap.size ≠ g := by omega
  have hgm : g ≠ m := fun e => by have := D.at'.c.me; rw [← e, hg4] at this; cases this
  have hmg : m ≠ g := fun e => hgm e.symm
  have hr0 : (0 : Int) ≤ r := by omega
  have hr1 : (r : Int) < s.regs.length := by omega
  have hpr := (prim_same s op (Vm.vals s.regs args)).2.2.1
  obtain ⟨v, s3, hps⟩ : ∃ v s3, prim s op (Vm.vals s.regs args) = (v, s3) := ⟨_, _, rfl⟩
  rw [hps] at hpr HP
  have HE2 := HE.out
  rw [hps] at HE2
  dsimp only at HE2 hpr
  have HE3 := Lib.hid HE2
  have HD := Lib.hid D
  have HPR := Lib.hid hpr
  obtain ⟨vk, vi, vt⟩ := v
  unfold PrimPost Hp.V.val at HP
  dsimp only at HP
  clear D hrow hy hps HE2 HE
  go_wp2_with fail
  with_reducible refine HP.out.mono ?_
  rintro e w3 ⟨rfl, ⟨ρ', ov', hX, hz⟩, hsz, hkp⟩
  obtain ⟨w4, B4⟩ := boxed w3 #[.int .i64 vk, .int .i64 vi, .string vt] 64
  have X4 := hX.bel B4.below
  have hs4 := B4.size
  have d10 : w3.cell? ⟨m, 10, none⟩ = some (.int .i64 s3.e) := hX.cell 10
  have e10 : w4.cell? ⟨m, 10, none⟩ = some (.int .i64 s3.e) := X4.cell 10
  have e12 : w4.cell? ⟨m, 12, none⟩ = some (.slice (some ⟨g, 0, none⟩) s.regs.length cg) := X4.cell 12
  have hqb := (B4.below.block w.heap.size (by omega)).trans ((hkp w.heap.size hq2 (HD.out.zero _ (Nat.le_refl _))).trans HD.out.box)
  have t1 := cell_of_row w4 w.heap.size 1 _ _ _ hqb
  have x0 := cell_of_row w4 w3.heap.size 0 _ _ _ B4.blk
  have x1 := cell_of_row w4 w3.heap.size 1 _ _ _ B4.blk
  have x2 := cell_of_row w4 w3.heap.size 2 _ _ _ B4.blk
  simp only [List.getElem?_toArray, List.getElem?_cons_zero, List.getElem?_cons_succ] at t1 x0 x1 x2
  have hrr4 := X4.c.regs
  rw [HPR.out] at hrr4
  have hreg4 : s.regs[r]? = some (s.regs[r]'(by omega)) := List.getElem?_eq_getElem _
  obtain ⟨g'', cg'', eg3, _, hgw4, j0, j1, j2, l0, l1, l2⟩ := own_part hrr4 rfl hreg4
  cases eg3
  have hm3 := hX.lt
  have hm4 := X4.lt
  have hq4 : w.heap.size < w4.heap.size := by omega
  have hv4 : w3.heap.size < w4.heap.size := by omega
  have hv3 : m ≠ w3.heap.size := by omega
  have HX4 := Lib.hid X4
  have HB4 := Lib.hid B4
  have HZ := Lib.hid hz
  have HKP := Lib.hid hkp
  have hs3 := hsz
  clear hX hz hkp B4 hqb hreg4 hsz X4 hrr4
  go_upto_region 4 with fail
  rw [← HB4.out.eq]
  have hk4 : ∀ b, b < w.heap.size → ρ b = 0 → ρ' b = 0 ∧ w4.heap[b]? = w.heap[b]? := fun b h1 h2 => ⟨HZ.out b (Nat.lt_of_lt_of_le h1 HD.out.below.size) h2, (HB4.out.below.block b (Nat.lt_of_lt_of_le h1 (Nat.le_trans HD.out.below.size hs3))).trans ((HKP.out b (Nat.lt_of_lt_of_le h1 HD.out.below.size) h2).trans (HD.out.below.block b h1))⟩
  have HK4 := Lib.hid hk4
  have hw4 : w.heap.size ≤ w4.heap.size := by omega
  clear hk4
  by_cases he : s3.e = 0
  · have g1 : (s3.e == 0) = true := by simpa using he
    have HS : Hid (doI s ⟨op, r, args, const, num⟩ = s3.setR r ⟨vk, vi, vt⟩) := by
      unfold Hid
      rw [HE3.out, if_pos he]
    go_wp2_with fail
    go_region
    go_wp2_with fail
    refine bodyPost_end (results_none rfl _ _ _) rfl ?_
    rw [HS.out]
    exact do_set (x := ⟨⟨#[]⟩, 0, [], .mk 0 0 ⟨#[]⟩ [], 0⟩) (lv := undef) (dl := undef) (a2 := none) (c2 := 0) (w2 := w) HX4.out hw4 HK4.out r (by rw [HPR.out]; omega) ⟨vk, vi, vt⟩ rfl 1
  · have g1 : (s3.e == 0) = false := beq_eq_false_iff_ne.2 he
    have HS : Hid (doI s ⟨op, r, args, const, num⟩ = s3) := by
      unfold Hid
      rw [HE3.out, if_neg he]
    go_wp2_with fail
    refine bodyPost_end (results_none rfl _ _ _) rfl ?_
    rw [HS.out]
    exact ⟨rfl, ⟨ρ', H, hb, mb, ov', _, fv, cbs, HX4.out, HK4.out⟩, hw4⟩
end
end Vm
end Go.Proofs.Ytalfnaielhbocaa
