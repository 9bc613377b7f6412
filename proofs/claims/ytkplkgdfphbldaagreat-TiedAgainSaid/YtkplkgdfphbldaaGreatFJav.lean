/- The reference's Do: its table, its refusals. -/
import Derived.Deep.DeepCutAuto
import Derived.Test.YtkplkgdfphbldaaGreatFJar
import Derived.Test.YtkplkgdfphbldaaGreatFJah
set_option linter.unusedVariables false
set_option linter.unusedSimpArgs false
set_option linter.unnecessarySimpa false
namespace Go.Proofs.YtkplkgdfphbldaaGreat
open Go.RowKit
set_option maxRecDepth 100000
set_option linter.unusedVariables false
set_option linter.unusedSimpArgs false
structure RDo (h : Nat) (O : Nat → Prop) (T : List Hp.Th) (av : Value) (l : List Hp.V) (g : Nat) (w wx : World) : Prop where
  st : HSt wx 76 h O T
  below : Below w.heap.size w wx
  args : VSl wx av l
  tab : RTab wx g
  res : wx.heap[w.heap.size]? = some (.cells #[.int .i64 0, .int .i64 0, .string ⟨#[]⟩] 78 (0, 0))
section
variable {h : Nat} {O : Nat → Prop} {T : List Hp.Th} {av : Value} {l : List Hp.V} {g : Nat} {w wx wy : World}
theorem RDo.bel (H : RDo h O T av l g w wx) (hb : Below wx.heap.size wx wy) : RDo h O T av l g w wy :=
  ⟨H.st.below hb (Nat.le_refl _), H.below.trans (hb.mono H.below.size), H.args.below hb (Nat.le_refl _), H.tab.below hb (Nat.le_refl _), (hb.block _ (Array.getElem?_eq_some_iff.1 H.res).1).trans H.res⟩
theorem RDo.out (H : RDo h O T av l g w wx) : wx.cell? ⟨w.heap.size, 0, none⟩ = some (.int .i64 0) ∧ wx.cell? ⟨w.heap.size, 1, none⟩ = some (.int .i64 0) ∧ wx.cell? ⟨w.heap.size, 2, none⟩ = some (.string ⟨#[]⟩) ∧ wx.frozen? ⟨w.heap.size, 0, none⟩ = false ∧ wx.frozen? ⟨w.heap.size, 1, none⟩ = false ∧ wx.frozen? ⟨w.heap.size, 2, none⟩ = false ∧ w.heap.size < wx.heap.size :=
  ⟨cell_of_row wx _ 0 _ _ _ H.res, cell_of_row wx _ 1 _ _ _ H.res, cell_of_row wx _ 2 _ _ _ H.res, frozen_of_row wx _ 0 _ _ H.res, frozen_of_row wx _ 1 _ _ H.res, frozen_of_row wx _ 2 _ _ H.res, (Array.getElem?_eq_some_iff.1 H.res).1⟩
theorem RDo.fin (H : RDo h O T av l g w wx) (x y z : Value) : (((wx.setCell ⟨w.heap.size, 0, none⟩ x).setCell ⟨w.heap.size, 1, none⟩ y).setCell ⟨w.heap.size, 2, none⟩ z).heap[w.heap.size]? = some (.cells #[x, y, z] 78 (0, 0)) ∧ Below w.heap.size w (((wx.setCell ⟨w.heap.size, 0, none⟩ x).setCell ⟨w.heap.size, 1, none⟩ y).setCell ⟨w.heap.size, 2, none⟩ z) :=
  ⟨three_set _ _ _ _ _ _ x y z H.res, below_three H.below (Nat.le_refl _) _ _ _⟩
theorem RDo.say (H : RDo h O T av l g w wx) (hlt : ∀ b, O b → b < w.heap.size) (r : Hp.V) (er : Int) :
    (((wx.setCell ⟨w.heap.size, 0, none⟩ (.int .i64 r.kind)).setCell ⟨w.heap.size, 1, none⟩ (.int .i64 r.int)).setCell ⟨w.heap.size, 2, none⟩ (.string r.text)).heap[w.heap.size]? = some (.cells #[.int .i64 r.kind, .int .i64 r.int, .string r.text] 78 (0, 0)) ∧
    DoPost 76 h O r er T w (.returned (.tuple #[.agg #[.int .i64 r.kind, .int .i64 r.int, .string r.text], .int .i64 er])) (((wx.setCell ⟨w.heap.size, 0, none⟩ (.int .i64 r.kind)).setCell ⟨w.heap.size, 1, none⟩ (.int .i64 r.int)).setCell ⟨w.heap.size, 2, none⟩ (.string r.text)) :=
  ⟨(H.fin _ _ _).1, O, rfl, ret_end H.st (Grow.of H.below) (fun e => by have := hlt _ e; omega) (Nat.le_refl _) _ _ _⟩
theorem RDo.arg (H : RDo h O T av l g w wx) {k : Nat} {v : Hp.V} (hv : l[k]? = some v) : ∃ b off c, av = .slice (some ⟨b, off, none⟩) l.length c ∧ b < wx.heap.size ∧ wx.cell? ⟨b, off + k * 3, none⟩ = some (.int .i64 v.kind) ∧ wx.cell? ⟨b, off + k * 3 + 1, none⟩ = some (.int .i64 v.int) ∧ wx.cell? ⟨b, off + k * 3 + 2, none⟩ = some (.string v.text) := by
  obtain ⟨a, c, e⟩ := H.args.len
  have h2 := H.args
  subst e
  obtain ⟨b, off, rfl, hb, hc⟩ := h2.at (fun e => by rw [e] at hv; simp at hv)
  exact ⟨b, off, c, rfl, hb, hc k v hv⟩
end
end Go.Proofs.YtkplkgdfphbldaaGreat
namespace Go.Proofs.YtkplkgdfphbldaaGreat
open Go.RowKit
set_option linter.unusedVariables false
set_option linter.unusedSimpArgs false
def unsetB : ByteArray := ⟨#[37, 117, 110, 115, 101, 116]⟩
set_option maxHeartbeats 40000000 in
set_option maxRecDepth 100000 in
theorem rdo_unset (h : Nat) (O : Nat → Prop) (T : List Hp.Th) (av : Value) (w : World) (H : HSt w 76 h O T) (hv : VSl w av []) :
    Calls Tryz.prog 96 #[.pointer (some ⟨h, 0, none⟩), .string unsetB, av] w (DoPost 76 h O ⟨7, 0, ⟨#[]⟩⟩ 0 T w) := by
  have HH := Lib.hid H
  have HV := Lib.hid hv
  have HH0 := Lib.hid H.lt
  obtain ⟨p, hp⟩ : ∃ p, p = unsetB := ⟨_, rfl⟩
  rw [← hp]
  have HP := Lib.hid hp
  have hi : Hp.rat p 38 = 37 := by rw [hp]; decide +kernel
  have HI := Lib.hid hi
  clear H hv hp hi
  go_enter Tryz.func96, Tryz.ntmps96
  go_wp2_with fail
  with_reducible refine (rows_any _).mono ?_
  rintro e w1 ⟨g, rfl, hR, hb⟩
  have HB : Hid (RDo h O T av [] g w w1) := by
    have hb0 : Below w.heap.size w w1 := ((Below.refl _ _).alloc (Nat.le_refl _) _).trans (hb.mono (by simp))
    exact ⟨HH.out.below hb0 (Nat.le_refl _), hb0, HV.out.below hb0 (Nat.le_refl _), hR, (hb.block _ (by simp)).trans (heap_alloc_new w _)⟩
  clear hR hb
  obtain ⟨ap, cp, rfl⟩ := HV.out.len
  go_wp2_with fail
  go_loopg [9, 10] 38 (fun gk s9 s10 wx => ∃ k : Nat, k ≤ 38 ∧ gk = 38 - k ∧ s9 = .int .i64 (Hp.rat p k) ∧ s10 = .int .i64 k ∧ wx = w1)
  case atStart => exact ⟨0, by omega, rfl, rfl, rfl, rfl⟩
  case round =>
    obtain ⟨k, hk, rfl, rfl, rfl, rfl⟩ := hrel
    by_cases hlt : k < 38
    · obtain ⟨x, hx⟩ : ∃ x, Hp.tab[k]? = some x := ⟨_, List.getElem?_eq_getElem (by rw [Hp.tab_len]; exact hlt)⟩
      obtain ⟨d0, ax, cx, d1, _⟩ := HB.out.tab.2 k x hx
      have hgR := HB.out.tab.1
      have hst := Hp.rat_step (p := p) hx
      have hi1 : (0 : Int) ≤ k := by omega
      have hi2 : (k : Int) < 38 := by omega
      by_cases he : x.name = p
      · rw [if_pos he] at hst
        have HST := Lib.hid hst
        subst he
        clear hst
        have he2 : (x.name.toList == x.name.toList) = true := beq_self_eq_true _
        go_wp2_with fail
        go_roundg (38 - (k + 1))
        case measure => omega
        case rel => exact ⟨k + 1, by omega, rfl, by rw [HST.out], by go_num, rfl⟩
      · rw [if_neg he] at hst
        have HST := Lib.hid hst
        clear hst
        have he2 : (x.name.toList == p.toList) = false := by
          rw [beq_eq_false_iff_ne]
          exact fun e => he (by rw [Lib.toList_data, Lib.toList_data] at e; exact ByteArray.ext (Array.toList_inj.1 e))
        go_wp2_with fail
        go_roundg (38 - (k + 1))
        case measure => omega
        case rel => exact ⟨k + 1, by omega, rfl, by rw [HST.out], by go_num, rfl⟩
    · obtain rfl : k = 38 := by omega
      have hrat := HI.out
      simp only [hrat]
      obtain ⟨x, hx⟩ : ∃ x, Hp.tab[37]? = some x := ⟨_, rfl⟩
      have hxl : x.letters.length = 0 := by cases hx; rfl
      obtain ⟨d0, ax, cx, d1, _⟩ := HB.out.tab.2 37 x hx
      rw [hxl] at d1
      have hgR := HB.out.tab.1
      have HX := Lib.hid hx
      clear hx hxl hrat
      go_wp2_with fail
      go_loopg [11] 0 (fun gk s11 wx => gk = 0 ∧ s11 = .int .i64 0 ∧ wx = wr)
      case atStart => exact ⟨rfl, rfl, rfl⟩
      case round =>
        obtain ⟨rfl, rfl, rfl⟩ := hrel
        go_wp2_with fail
        go_loopg [12] 0 (fun gk s12 wx => gk = 0 ∧ s12 = .int .i64 0 ∧ wx = wr)
        case atStart => exact ⟨rfl, rfl, rfl⟩
        case round =>
          obtain ⟨rfl, rfl, rfl⟩ := hrel
          go_upto_region 31 with fail
          have hb4 := HB.out.bel (((((Below.refl _ wr).alloc (Nat.le_refl _) (.cells #[.int .i64 0, .int .i64 0, .string ⟨#[]⟩] 78)).alloc (by simp) (.cells #[.int .i64 0, .int .i64 0, .string ⟨#[]⟩] 78)).alloc (by simp <;> omega) (.cells #[.int .i64 0, .int .i64 0, .string ⟨#[]⟩] 78)).alloc (by simp <;> omega) (.cells #[.int .i64 5, .int .i64 0, .string ⟨#[]⟩] 78))
          generalize (((wr.alloc (.cells #[.int .i64 0, .int .i64 0, .string ⟨#[]⟩] 78)).alloc (.cells #[.int .i64 0, .int .i64 0, .string ⟨#[]⟩] 78)).alloc (.cells #[.int .i64 0, .int .i64 0, .string ⟨#[]⟩] 78)).alloc (.cells #[.int .i64 5, .int .i64 0, .string ⟨#[]⟩] 78) = w4 at hb4 ⊢
          obtain ⟨r0, r1, r2, f0, f1, f2, hw⟩ := hb4.out
          have HB4 := Lib.hid hb4
          clear hb4
          rw [HP.out]
          unfold unsetB
          go_wp2_with fail
          have E := HB4.out.say HH0.out (⟨7, 0, ⟨#[]⟩⟩) (0)
          refine bodyPost_ret (res2 rfl _ _ w.heap.size 78 _ (0, 0) rfl E.1 valD valSize) rfl ?_
          exact E.2
end Go.Proofs.YtkplkgdfphbldaaGreat
