/- The law's other, others. -/
import Derived.Test.YtalfnaielhbocaaNJbi
import Derived.BigQuiet
set_option linter.unusedVariables false
set_option linter.unusedSimpArgs false
set_option linter.unnecessarySimpa false
namespace Go.Proofs.Ytalfnaielhbocaa
open Go.RowKit
set_option linter.unusedVariables false
set_option linter.unusedSimpArgs false
set_option maxRecDepth 100000
namespace Vm
theorem infoInt : (Try.prog.info? 3).map (fun i => (i.zero, i.size, i.bytes)) = some (some (.int .i64 0), 1, 8) := by kernel_rfl
theorem other_any (r a b : Int) (w : World) : Calls Try.prog 26 #[.int .i64 r, .int .i64 a, .int .i64 b] w fun e w' => e = .returned (.int .i64 (other r a b)) ∧ w = w' := by
  unfold other
  by_cases h1 : r = a
  · have g1 : (r == a) = true := by rw [h1]; exact beq_self_eq_true a
    rw [if_pos h1]
    clear h1
    go_enter Try.func26, Try.ntmps26
    go_wp2_with fail
    go_ret
    exact ⟨rfl, rfl⟩
  · have g1 : (r == a) = false := beq_eq_false_iff_ne.2 h1
    rw [if_neg h1]
    clear h1
    by_cases h2 : r = b
    · have g2 : (r == b) = true := by rw [h2]; exact beq_self_eq_true b
      rw [if_pos h2]
      clear h2
      go_enter Try.func26, Try.ntmps26
      go_wp2_with fail
      go_ret
      exact ⟨rfl, rfl⟩
    · have g2 : (r == b) = false := beq_eq_false_iff_ne.2 h2
      rw [if_neg h2]
      clear h2
      go_enter Try.func26, Try.ntmps26
      go_wp2_with fail
      go_ret
      exact ⟨rfl, rfl⟩
theorem ints_take (l : List Int) (k : Nat) (f : Int → Int) {r : Int} (h : l[k]? = some r) : ints ((l.take (k + 1)).map f) = ints ((l.take k).map f) ++ [.int .i64 (f r)] := by
  unfold ints
  rw [List.take_add_one, h, List.map_append, List.map_append]
  rfl
set_option maxHeartbeats 4000000 in
theorem others_any (l : List Int) (al : Option Addr) (cl : Nat) (a b : Int) (w : World) (h : Sl w (.slice al l.length cl) (ints l)) (hlen : l.length ≤ 1000000) :
    Calls Try.prog 27 #[.slice al l.length cl, .int .i64 a, .int .i64 b] w fun e w' => ∃ g c, e = .returned (.slice (some ⟨g, 0, none⟩) l.length c) ∧ w'.ownsRow w.heap.size 3 1 (.slice (some ⟨g, 0, none⟩) l.length c) l.length (ints (l.map fun r => other r a b)) ∧ Below w.heap.size w w' := by
  have HS := Lib.hid h
  have HL := Lib.hid hlen
  obtain ⟨i0, hi0, hz0, hz1, hz2⟩ := info_parts infoInt
  have HJ := Lib.hid hi0
  have HZ0 := Lib.hid hz0
  have HZ1 := Lib.hid hz1
  have HZ2 := Lib.hid hz2
  obtain ⟨wE, BE⟩ := boxed w #[] 3
  have HXE := Lib.hid BE
  have HOE : Hid (wE.ownsRow w.heap.size 3 1 (.slice (some ⟨w.heap.size, 0, none⟩) 0 0) 0 []) := by rw [BE.eq]; exact own_empty (Nat.le_refl _)
  clear h hi0 hz0 hz1 hz2 BE
  go_enter Try.func27, Try.ntmps27
  go_wp2_with fail
  rw [← HXE.out.eq]
  go_loopg [7, 8] l.length (fun gk s7 s8 wx => ∃ k g c : Nat, k ≤ l.length ∧ gk = l.length - k ∧ s7 = .slice (some ⟨g, 0, none⟩) k c ∧ s8 = .int .i64 k ∧ Hid (wx.ownsRow w.heap.size 3 1 (.slice (some ⟨g, 0, none⟩) k c) k (ints ((l.take k).map fun r => other r a b))) ∧ Hid (Below w.heap.size w wx))
  case atStart => exact ⟨0, w.heap.size, 0, Nat.zero_le _, rfl, rfl, rfl, HOE.out, HXE.out.below⟩
  case round =>
    obtain ⟨k, g, c, hk, rfl, rfl, rfl, HO, HB⟩ := hrel
    by_cases hlt : k < l.length
    · obtain ⟨r, hr⟩ : ∃ r, l[k]? = some r := ⟨_, List.getElem?_eq_getElem hlt⟩
      have hil : (ints l).length = l.length := by simp [ints]
      have hne : ints l ≠ [] := fun e => by rw [← hil, e] at hlt; simp at hlt
      obtain ⟨bs, os, rfl, hbs, hat⟩ := HS.out.at hne
      have hc := hat k (by rw [hil]; exact hlt)
      have hgd : (ints l).getD k undef = .int .i64 r := by
        unfold ints
        rw [List.getD_eq_getElem?_getD, List.getElem?_map, hr]
        rfl
      rw [hgd, ← cell_bel HB.out hbs] at hc
      have g1 : (0 : Int) ≤ k := by omega
      have g2 : (k : Int) < l.length := by omega
      have hgw : IntKind.i64.wrap ((k : Int) + 1) = k + 1 := by rw [IntKind.wrap_i64]; have := HL.out; omega
      have HR := Lib.hid hr
      clear hat hne hil hgd hr
      go_wp2_with fail
      with_reducible refine (other_any r a b _).mono ?_
      rintro e w4 ⟨rfl, rfl⟩
      go_wp2_with (first
        | (at_builtin; refine wpList_append_lies _ rfl (.tmp 16) (.tmp 24) 43 rfl w.heap.size 3 i0 _ 1 8 Try.underlying43 HJ.out HZ0.out HZ1.out HZ2.out rfl (by decide) (.slice (some ⟨g, 0, none⟩) k c) k _ rfl (HO.out.alloc _) ⟨wr.heap.size, 0, none⟩ 1 1 [.int .i64 (other r a b)] rfl rfl (new_cells _ (heap_alloc_new wr _)) (by simp [Value.oneCell']) (by decide) (by have := HL.out; simp only [maxLen]; omega) (by have := HL.out; omega) (by have := HB.out.size; simp; omega) (wr.heap.size + 1) (by simp) ?_; intro g5 c5 w5 hown5 hgr5 hat5 hlt5; have HO5 := Lib.hid hown5; have HB5 := Lib.hid ((HB.out.alloc HB.out.size (.cells #[.int .i64 (other r a b)] 3)).grown hgr5 (by have := HB.out.size; simp; omega) (fun q hq => (HO.out.lt q hq).1)); clear hown5 hgr5 hat5 hlt5)
        | fail)
      go_roundg (l.length - (k + 1))
      case measure => omega
      case rel => exact ⟨k + 1, g5, c5, by omega, rfl, rfl, by go_num, by rw [ints_take l k _ HR.out]; exact HO5.out, HB5.out⟩
    · obtain rfl : k = l.length := by omega
      go_wp2_with fail
      go_ret
      refine ⟨g, c, rfl, ?_, HB.out⟩
      have := HO.out
      rw [List.take_length] at this
      exact this
end Vm
end Go.Proofs.Ytalfnaielhbocaa
namespace Go.Proofs.Ytalfnaielhbocaa
open Go.RowKit
set_option linter.unusedVariables false
set_option linter.unusedSimpArgs false
set_option maxRecDepth 100000
namespace Vm
def ICs (w : World) (cs : List Value) (l : List Ins) : Prop := cs.length = l.length * 8 ∧ ∀ (j : Nat) (x : Ins), l[j]? = some x → ∃ av lv, cs[j * 8]? = some (.string x.op) ∧ cs[j * 8 + 1]? = some (.int .i64 x.to) ∧ cs[j * 8 + 2]? = some av ∧ cs[j * 8 + 3]? = some (.int .i64 x.const.kind) ∧ cs[j * 8 + 4]? = some (.int .i64 x.const.int) ∧ cs[j * 8 + 5]? = some (.string x.const.text) ∧ cs[j * 8 + 6]? = some lv ∧ cs[j * 8 + 7]? = some (.int .i64 x.num) ∧ Sl w av (ints x.args) ∧ DtAt w (fun _ => True) (.agg #[.int .i64 x.const.kind, .int .i64 x.const.int, .string x.const.text, lv]) x.const
theorem ICs.nil (w : World) : ICs w [] [] := ⟨rfl, fun j x h => by simp at h⟩
theorem BCs.nil (w : World) : BCs w [] [] := ⟨rfl, fun j x h => by simp at h⟩
abbrev insCs (x : Ins) (av lv : Value) : List Value := [.string x.op, .int .i64 x.to, av, .int .i64 x.const.kind, .int .i64 x.const.int, .string x.const.text, lv, .int .i64 x.num]
abbrev blkCs (x : Blk) (iv av : Value) : List Value := [iv, .int .i64 x.fin.kind, .int .i64 x.fin.reg, av, .int .i64 x.fin.to, .int .i64 x.fin.next, .int .i64 x.fin.els]
theorem ICs.snoc {w : World} {cs : List Value} {l : List Ins} (h : ICs w cs l) {x : Ins} {av lv : Value} (ha : Sl w av (ints x.args)) (hd : DtAt w (fun _ => True) (.agg #[.int .i64 x.const.kind, .int .i64 x.const.int, .string x.const.text, lv]) x.const) : ICs w (cs ++ insCs x av lv) (l ++ [x]) := by
  refine ⟨by simp [h.1]; omega, fun j y hy => ?_⟩
  have hl := h.1
  by_cases hj : j < l.length
  · rw [List.getElem?_append_left hj] at hy
    obtain ⟨av', lv', a0, a1, a2, a3, a4, a5, a6, a7, hr', hs'⟩ := h.2 j y hy
    refine ⟨av', lv', ?_, ?_, ?_, ?_, ?_, ?_, ?_, ?_, hr', hs'⟩
    all_goals rw [List.getElem?_append_left (by omega)]; assumption
  · rw [List.getElem?_append_right (by omega)] at hy
    have hj0 : j - l.length = 0 := by
      have := (List.getElem?_eq_some_iff.1 hy).1
      simp at this
      omega
    rw [hj0] at hy
    simp at hy
    subst hy
    have hjl : j = l.length := by omega
    subst hjl
    refine ⟨av, lv, ?_, ?_, ?_, ?_, ?_, ?_, ?_, ?_, ha, hd⟩
    all_goals rw [List.getElem?_append_right (by omega)]
    · rw [show l.length * 8 - cs.length = 0 by omega]; rfl
    · rw [show l.length * 8 + 1 - cs.length = 1 by omega]; rfl
    · rw [show l.length * 8 + 2 - cs.length = 2 by omega]; rfl
    · rw [show l.length * 8 + 3 - cs.length = 3 by omega]; rfl
    · rw [show l.length * 8 + 4 - cs.length = 4 by omega]; rfl
    · rw [show l.length * 8 + 5 - cs.length = 5 by omega]; rfl
    · rw [show l.length * 8 + 6 - cs.length = 6 by omega]; rfl
    · rw [show l.length * 8 + 7 - cs.length = 7 by omega]; rfl
theorem ICs.row {w : World} {B n : Nat} {t : TypeId} {v : Value} {cs : List Value} {l : List Ins} (ho : w.ownsRow B t 8 v n cs) (h : ICs w cs l) (hn : n = l.length) : Row w v 8 l (InsC w) := by
  subst hn
  rcases own_shape ho with ⟨rfl, e, e2⟩ | ⟨g, cap, rfl, _, hg, _⟩
  · exact ⟨none, 0, by rw [e], .inl (List.length_eq_zero_iff.1 e)⟩
  refine ⟨_, cap, rfl, .inr ⟨g, 0, rfl, hg, fun j x hx => ?_⟩⟩
  have hjl := (List.getElem?_eq_some_iff.1 hx).1
  obtain ⟨av, lv, a0, a1, a2, a3, a4, a5, a6, a7, hs, hd⟩ := h.2 j x hx
  have C := fun k (hk : k < l.length * 8) => ho.cellAt k hk
  rw [Nat.zero_add]
  exact ⟨(C _ (by omega)).trans a0, (C _ (by omega)).trans a1, ⟨av, (C _ (by omega)).trans a2, hs⟩, (C _ (by omega)).trans a3, (C _ (by omega)).trans a4, (C _ (by omega)).trans a5, ⟨lv, (C _ (by omega)).trans a6, hd⟩, (C _ (by omega)).trans a7⟩
structure Keep (w0 w wx : World) (ex : Nat → Prop) (w' : World) : Prop where
  below : Below w0.heap.size w0 w'
  size : wx.heap.size ≤ w'.heap.size
  blk : ∀ q, q < wx.heap.size → w.heap.size ≤ q → ¬ ex q → w'.heap[q]? = wx.heap[q]?
theorem Keep.trans {w0 w wx w1 w' : World} {ex ex' : Nat → Prop} (h1 : Keep w0 w wx ex w1) (h2 : Keep w0 w w1 ex' w') (he : ∀ q, q < wx.heap.size → ¬ ex q → ¬ ex' q) : Keep w0 w wx ex w' :=
  ⟨h2.below, Nat.le_trans h1.size h2.size, fun q h3 h4 h5 => (h2.blk q (Nat.lt_of_lt_of_le h3 h1.size) h4 (he q h3 h5)).trans (h1.blk q h3 h4 h5)⟩
structure TuI (w0 w wx : World) (f : Ins → Ins) (b : Blk) (xb k N : Nat) (v av : Value) : Prop where
  blk : wx.heap[xb]? = some (.cells (blkCs b v av).toArray 48 (0, 0))
  base : Below w0.heap.size w0 w
  lo : w.heap.size ≤ xb
  below : Below w.heap.size w wx
  row : ∃ cs, wx.ownsRow w.heap.size 55 8 v k cs ∧ (∀ w', Keep w0 w wx (fun q => q = xb ∨ v.ownBlock = some q ∨ q < N) w' → ICs w' cs ((b.ins.take k).map f)) ∧ ∀ q, v.ownBlock = some q → q ≠ xb
  hi : N ≤ xb ∧ N ≤ wx.heap.size ∧ ∀ q, v.ownBlock = some q → N ≤ q
theorem TuI.start {w0 w wx : World} {f : Ins → Ins} {b : Blk} {xb N : Nat} {av : Value} (hb : wx.heap[xb]? = some (.cells (blkCs b (.slice none 0 0) av).toArray 48 (0, 0))) (hbase : Below w0.heap.size w0 w) (hl : w.heap.size ≤ xb) (h : Below w.heap.size w wx) (hN : N ≤ xb) : TuI w0 w wx f b xb 0 N (.slice none 0 0) av :=
  ⟨hb, hbase, hl, h, ⟨[], World.ownsRow_nil _ _ _ _, (fun w' _ => by rw [List.take_zero]; exact ICs.nil w'), fun q e => by simp [Value.ownBlock] at e⟩, hN, Nat.le_trans hN (Nat.le_of_lt (Array.getElem?_eq_some_iff.1 hb).1), fun q e => by simp [Value.ownBlock] at e⟩
theorem TuI.next {w0 w wx wy w1 : World} {f : Ins → Ins} {b : Blk} {xb k g c ga N : Nat} {v av aw lw : Value} {x : Ins} {cs : List Value} (h : TuI w0 w wx f b xb k N v av) (hx : b.ins[k]? = some x)
    (hcs : wx.ownsRow w.heap.size 55 8 v k cs ∧ (∀ w', Keep w0 w wx (fun q => q = xb ∨ v.ownBlock = some q ∨ q < N) w' → ICs w' cs ((b.ins.take k).map f)) ∧ ∀ q, v.ownBlock = some q → q ≠ xb)
    (hy : Below wx.heap.size wx wy) (haw : ∃ e n, wy.ownsRow wx.heap.size e 1 aw n (ints (f x).args) ∧ aw.ownBlock = some ga) (hd : DtAt w0 (fun _ => True) (.agg #[.int .i64 (f x).const.kind, .int .i64 (f x).const.int, .string (f x).const.text, lw]) (f x).const)
    (hown : w1.ownsRow w.heap.size 55 8 (.slice (some ⟨g, 0, none⟩) (k + 1) c) (k + 1) (cs ++ insCs (f x) aw lw)) (hgr : wy.grownBy w1 v.ownBlock) (hat : v.ownBlock = some g ∨ g = wy.heap.size) :
    TuI w0 w (w1.setCell ⟨xb, 0, none⟩ (.slice (some ⟨g, 0, none⟩) (k + 1) c)) f b xb (k + 1) N (.slice (some ⟨g, 0, none⟩) (k + 1) c) av := by
  obtain ⟨h1, h2, h3⟩ := hcs
  obtain ⟨e, n, ho, hga⟩ := haw
  have hxl : xb < wx.heap.size := (Array.getElem?_eq_some_iff.1 h.blk).1
  have hbl := h.below.size
  have hvb : ∀ q, v.ownBlock = some q → w.heap.size ≤ q := fun q e => (h1.lt q e).1
  have hby : Below w.heap.size w wy := h.below.trans (hy.mono hbl)
  have hb1 : Below w.heap.size w w1 := hby.grown hgr hby.size hvb
  have hb2 : Below w.heap.size w (w1.setCell ⟨xb, 0, none⟩ (.slice (some ⟨g, 0, none⟩) (k + 1) c)) := hb1.setCell (p := ⟨xb, 0, none⟩) h.lo _
  have hgx : g ≠ xb := by
    rcases hat with e | e
    · exact h3 g e
    · have := hy.size; omega
  have hsz : (w1.setCell ⟨xb, 0, none⟩ (.slice (some ⟨g, 0, none⟩) (k + 1) c)).heap.size = w1.heap.size := by simp [World.setCell]
  have hgal := ho.lt ga hga
  have hK : Keep w0 w wx (fun q => q = xb ∨ v.ownBlock = some q ∨ q < N) (w1.setCell ⟨xb, 0, none⟩ (.slice (some ⟨g, 0, none⟩) (k + 1) c)) := by
    refine ⟨h.base.trans (hb2.mono h.base.size), by rw [hsz]; exact Nat.le_trans hy.size hgr.size, fun q hq _ hne => ?_⟩
    have n1 : q ≠ xb := fun e => hne (.inl e)
    exact (heap_setCell_other _ _ _ _ n1).trans ((hgr.block q (Nat.lt_of_lt_of_le hq hy.size) fun e => hne (.inr (.inl e.symm))).trans (hy.block q hq))
  have hxw1 : w1.heap[xb]? = some (.cells (blkCs b v av).toArray 48 (0, 0)) := (hgr.block xb (Nat.lt_of_lt_of_le hxl hy.size) fun e => (h3 xb e.symm) rfl).trans ((hy.block xb hxl).trans h.blk)
  have hgN : N ≤ g := by
    rcases hat with e | e
    · exact h.hi.2.2 g e
    · have := hy.size; have := h.hi.2.1; omega
  refine ⟨heap_setCell_same w1 xb 0 _ _ _ hxw1, h.base, h.lo, hb2, ⟨cs ++ insCs (f x) aw lw, own_set_ne hown (fun q e => by have e2 : g = q := (by simpa [Value.ownBlock] using e); rw [← e2]; exact hgx) _, fun w' hw' => ?_, fun q e => by have e2 : g = q := (by simpa [Value.ownBlock] using e); rw [← e2]; exact hgx⟩, h.hi.1, by rw [hsz]; exact Nat.le_trans h.hi.2.1 (Nat.le_trans hy.size hgr.size), fun q e => by have e2 : g = q := (by simpa [Value.ownBlock] using e); rw [← e2]; exact hgN⟩
  have hK2 := hK.trans hw' (fun q hq hn => by
    rintro (e | e | e)
    · exact hn (.inl e)
    · have e2 : g = q := by simpa [Value.ownBlock] using e
      subst e2
      rcases hat with e3 | e3
      · exact hn (.inr (.inl e3))
      · have := hy.size; omega
    · exact hn (.inr (.inr e)))
  have hI := h2 w' hK2
  rw [List.take_add_one, hx, List.map_append]
  refine hI.snoc ?_ ?_
  · refine Sl.own (own_same ho fun q e => ?_)
    have e2 : ga = q := by rw [hga] at e; exact Option.some.inj e
    subst e2
    have n1 : ga ≠ xb := by omega
    have n2 : ga ≠ g := by
      rcases hat with e | e
      · have := (h1.lt g e).2; omega
      · omega
    have n3 : some ga ≠ v.ownBlock := fun e => by have := (h1.lt ga e.symm).2; omega
    exact (hw'.blk ga (by rw [hsz]; exact Nat.lt_of_lt_of_le hgal.2 hgr.size) (by omega) (by rintro (e | e | e); exact n1 e; exact n2 (by simpa [Value.ownBlock] using e.symm); have := h.hi.2.1; omega)).trans ((heap_setCell_other _ _ _ _ n1).trans (hgr.block ga hgal.2 n3))
  · exact hd.bel hw'.below (Nat.le_refl _)
structure TuO (w0 w wx : World) (f : Blk → Blk) (p : Prc) (ob i : Nat) (v : Value) : Prop where
  blk : wx.heap[ob]? = some (.cells #[.int .i64 p.params, .int .i64 p.holds, .int .i64 p.regs, v] 40 (0, 0))
  base : Below w0.heap.size w0 w
  lo : w.heap.size ≤ ob
  below : Below w.heap.size w wx
  row : ∃ cs, wx.ownsRow w.heap.size 48 7 v i cs ∧ (∀ w', Keep w0 w wx (fun q => q = ob ∨ v.ownBlock = some q) w' → BCs w' cs ((p.blocks.take i).map f)) ∧ ∀ q, v.ownBlock = some q → q ≠ ob
theorem TuO.start {w0 w wx : World} {f : Blk → Blk} {p : Prc} {ob : Nat} (hb : wx.heap[ob]? = some (.cells #[.int .i64 p.params, .int .i64 p.holds, .int .i64 p.regs, .slice none 0 0] 40 (0, 0))) (hbase : Below w0.heap.size w0 w) (hl : w.heap.size ≤ ob) (h : Below w.heap.size w wx) : TuO w0 w wx f p ob 0 (.slice none 0 0) :=
  ⟨hb, hbase, hl, h, [], World.ownsRow_nil _ _ _ _, (fun w' _ => by rw [List.take_zero]; exact BCs.nil w'), fun q e => by simp [Value.ownBlock] at e⟩
theorem TuO.next {w0 w wx wi wy w1 : World} {f : Blk → Blk} {fi : Ins → Ins} {p : Prc} {x : Blk} {ob i xb n g c ga : Nat} {v v2 av2 aw : Value} {cs : List Value} (h : TuO w0 w wx f p ob i v) (hx : p.blocks[i]? = some x)
    (hcs : wx.ownsRow w.heap.size 48 7 v i cs ∧ (∀ w', Keep w0 w wx (fun q => q = ob ∨ v.ownBlock = some q) w' → BCs w' cs ((p.blocks.take i).map f)) ∧ ∀ q, v.ownBlock = some q → q ≠ ob)
    (hI : TuI w0 w wi fi x xb n wx.heap.size v2 av2) (hn : n = x.ins.length) (hf : (f x).ins = x.ins.map fi) (hy : Below wx.heap.size wx wy) (hiy : ∀ q, q < wi.heap.size → q ≠ xb → wy.heap[q]? = wi.heap[q]?) (hiz : wi.heap.size ≤ wy.heap.size)
    (haw : ∃ e n, wy.ownsRow wx.heap.size e 1 aw n (ints (f x).fin.args) ∧ aw.ownBlock = some ga)
    (hown : w1.ownsRow w.heap.size 48 7 (.slice (some ⟨g, 0, none⟩) (i + 1) c) (i + 1) (cs ++ blkCs (f x) v2 aw)) (hgr : wy.grownBy w1 v.ownBlock) (hat : v.ownBlock = some g ∨ g = wy.heap.size) :
    TuO w0 w (w1.setCell ⟨ob, 3, none⟩ (.slice (some ⟨g, 0, none⟩) (i + 1) c)) f p ob (i + 1) (.slice (some ⟨g, 0, none⟩) (i + 1) c) := by
  obtain ⟨h1, h2, h3⟩ := hcs
  obtain ⟨e, m, ho, hga⟩ := haw
  have hol : ob < wx.heap.size := (Array.getElem?_eq_some_iff.1 h.blk).1
  have hbl := h.below.size
  have hvb : ∀ q, v.ownBlock = some q → w.heap.size ≤ q ∧ q < wx.heap.size := fun q e => h1.lt q e
  have hby : Below w.heap.size w wy := h.below.trans (hy.mono hbl)
  have hb1 : Below w.heap.size w w1 := hby.grown hgr hby.size fun q e => (hvb q e).1
  have hb2 : Below w.heap.size w (w1.setCell ⟨ob, 3, none⟩ (.slice (some ⟨g, 0, none⟩) (i + 1) c)) := hb1.setCell (p := ⟨ob, 3, none⟩) h.lo _
  have hgo : g ≠ ob := by
    rcases hat with e | e
    · exact h3 g e
    · have := hy.size; omega
  have hsz : (w1.setCell ⟨ob, 3, none⟩ (.slice (some ⟨g, 0, none⟩) (i + 1) c)).heap.size = w1.heap.size := by simp [World.setCell]
  have hgal := ho.lt ga hga
  have hK : Keep w0 w wx (fun q => q = ob ∨ v.ownBlock = some q) (w1.setCell ⟨ob, 3, none⟩ (.slice (some ⟨g, 0, none⟩) (i + 1) c)) := by
    refine ⟨h.base.trans (hb2.mono h.base.size), by rw [hsz]; exact Nat.le_trans hy.size hgr.size, fun q hq _ hne => ?_⟩
    have n1 : q ≠ ob := fun e => hne (.inl e)
    exact (heap_setCell_other _ _ _ _ n1).trans ((hgr.block q (Nat.lt_of_lt_of_le hq hy.size) fun e => hne (.inr e.symm)).trans (hy.block q hq))
  have hxw1 : w1.heap[ob]? = some (.cells #[.int .i64 p.params, .int .i64 p.holds, .int .i64 p.regs, v] 40 (0, 0)) := (hgr.block ob (Nat.lt_of_lt_of_le hol hy.size) fun e => (h3 ob e.symm) rfl).trans ((hy.block ob hol).trans h.blk)
  refine ⟨heap_setCell_same w1 ob 3 _ _ _ hxw1, h.base, h.lo, hb2, cs ++ blkCs (f x) v2 aw, own_set_ne hown (fun q e => by have e2 : g = q := (by simpa [Value.ownBlock] using e); rw [← e2]; exact hgo) _, fun w' hw' => ?_, fun q e => by have e2 : g = q := (by simpa [Value.ownBlock] using e); rw [← e2]; exact hgo⟩
  have hK2 := hK.trans hw' (fun q hq hn => by
    rintro (e | e)
    · exact hn (.inl e)
    · have e2 : g = q := by simpa [Value.ownBlock] using e
      subst e2
      rcases hat with e3 | e3
      · exact hn (.inr e3)
      · have := hy.size; omega)
  have hB := h2 w' hK2
  -- a block that was made in this round stays
  have hnew : ∀ q, wx.heap.size ≤ q → q < wy.heap.size → w'.heap[q]? = wy.heap[q]? := fun q q1 q2 => by
    have n1 : q ≠ ob := by omega
    have n2 : q ≠ g := by
      rcases hat with e | e
      · have := (hvb g e).2; omega
      · omega
    have n3 : some q ≠ v.ownBlock := fun e => by have := (hvb q e.symm).2; omega
    exact (hw'.blk q (by rw [hsz]; exact Nat.lt_of_lt_of_le q2 hgr.size) (by omega) (by rintro (e | e); exact n1 e; exact n2 (by simpa [Value.ownBlock] using e.symm))).trans ((heap_setCell_other _ _ _ _ n1).trans (hgr.block q q2 n3))
  rw [List.take_add_one, hx, List.map_append]
  refine hB.snoc ?_ ?_
  · obtain ⟨ics, o1, o2, o3⟩ := hI.row
    have hKI : Keep w0 w wi (fun q => q = xb ∨ v2.ownBlock = some q ∨ q < wx.heap.size) w' := by
      refine ⟨hw'.below, ?_, fun q q1 q2 q3 => ?_⟩
      · have := hw'.size; rw [hsz] at this; have := hgr.size; omega
      · have n1 : q ≠ xb := fun e => q3 (.inl e)
        have n2 : wx.heap.size ≤ q := Nat.le_of_not_lt fun e => q3 (.inr (.inr e))
        exact (hnew q n2 (Nat.lt_of_lt_of_le q1 hiz)).trans (hiy q q1 n1)
    have hic := o2 w' hKI
    rw [hn, List.take_length, ← hf] at hic
    refine ICs.row (own_same o1 fun q e => ?_) hic (by rw [hn, hf, List.length_map])
    have q1 := (o1.lt q e).2
    exact (hnew q (hI.hi.2.2 q e) (Nat.lt_of_lt_of_le q1 hiz)).trans (hiy q q1 (o3 q e))
  · refine Sl.own (own_same ho fun q e => ?_)
    have e2 : ga = q := by rw [hga] at e; exact Option.some.inj e
    subst e2
    exact hnew ga hgal.1 hgal.2
end Vm
end Go.Proofs.Ytalfnaielhbocaa
namespace Go.Proofs.Ytalfnaielhbocaa
open Go.RowKit
set_option linter.unusedVariables false
set_option linter.unusedSimpArgs false
set_option maxRecDepth 100000
namespace Vm
theorem infoInsN : (Try.prog.info? 55).map (fun i => (i.zero, i.size, i.bytes)) = some (some (.agg #[.string ⟨#[]⟩, .int .i64 0, .slice none 0 0, .int .i64 0, .int .i64 0, .string ⟨#[]⟩, .slice none 0 0, .int .i64 0]), 8, 112) := by kernel_rfl
theorem turnI (k : Nat) (a b : Int) (x : Ins) : (turnN k a b).ins k x = ⟨x.op, if x.op = sTie then x.to else other x.to a b, x.args.map fun r => other r a b, x.const, x.num⟩ := by
  unfold Turn.ins turnN
  simp
theorem turnF (k : Nat) (a b : Int) (x : Fin) : (turnN k a b).fin k x = ⟨x.kind, if x.kind = 0 then x.reg else other x.reg a b, x.args.map fun r => other r a b, if x.kind = 4 ∨ x.kind = 6 then other x.to a b else x.to, x.next, x.els⟩ := by
  unfold Turn.fin turnN
  simp
theorem own_lo {w : World} {B B' e size n : Nat} {v : Value} {xs : List Value} (h : w.ownsRow B e size v n xs) (hB : B' ≤ B) : w.ownsRow B' e size v n xs := by
  obtain ⟨h1, h2 | ⟨g, cap, cur, r1, r2, r3⟩⟩ := h
  · exact ⟨h1, .inl h2⟩
  · exact ⟨h1, .inr ⟨g, cap, cur, r1, Nat.le_trans hB r2, r3⟩⟩
theorem procD : ∃ fs, Try.prog.underlying 40 = some (.struct fs) := ⟨_, Try.underlying40⟩
theorem procSize : (Try.prog.info? 40).map (·.size) = some 4 := by kernel_rfl
theorem set4 {w : World} {g : Nat} {a0 a1 a2 a3 b0 b1 b2 b3 : Value} {t : TypeId} (h : w.heap[g]? = some (.cells #[a0, a1, a2, a3] t (0, 0))) :
    ((((w.setCell ⟨g, 0, none⟩ b0).setCell ⟨g, 1, none⟩ b1).setCell ⟨g, 2, none⟩ b2).setCell ⟨g, 3, none⟩ b3).heap[g]? = some (.cells #[b0, b1, b2, b3] t (0, 0)) := by
  have h0 : (w.setCell ⟨g, 0, none⟩ b0).heap[g]? = some (.cells #[b0, a1, a2, a3] t (0, 0)) := heap_setCell_same _ g 0 _ _ b0 h
  have h1 : ((w.setCell ⟨g, 0, none⟩ b0).setCell ⟨g, 1, none⟩ b1).heap[g]? = some (.cells #[b0, b1, a2, a3] t (0, 0)) := heap_setCell_same _ g 1 _ _ b1 h0
  have h2 : (((w.setCell ⟨g, 0, none⟩ b0).setCell ⟨g, 1, none⟩ b1).setCell ⟨g, 2, none⟩ b2).heap[g]? = some (.cells #[b0, b1, b2, a3] t (0, 0)) := heap_setCell_same _ g 2 _ _ b2 h1
  exact heap_setCell_same _ g 3 _ _ b3 h2
structure TuFew (p : Prc) : Prop where
  blocks : p.blocks.length ≤ 4096
  ins : ∀ x ∈ p.blocks, x.ins.length ≤ 4096 ∧ x.fin.args.length ≤ 1000000 ∧ ∀ y ∈ x.ins, y.args.length ≤ 1000000
set_option maxHeartbeats 16000000 in
theorem turned_any (p : Prc) (ab : Option Addr) (cb : Nat) (a b : Int) (kk : Nat) (w00 w : World) (h : Row w00 (.slice ab p.blocks.length cb) 7 p.blocks (BlkC w00)) (hb0 : Below w00.heap.size w00 w) (hfew : TuFew p) :
    Calls Try.prog 13 #[.agg #[.int .i64 p.params, .int .i64 p.holds, .int .i64 p.regs, .slice ab p.blocks.length cb], .int .i64 a, .int .i64 b] w fun e w' => ∃ v, e = .returned (.agg #[.int .i64 p.params, .int .i64 p.holds, .int .i64 p.regs, v]) ∧ (∃ a n c, v = .slice a n c) ∧ Below w.heap.size w w' ∧ ∀ w'', Below w00.heap.size w00 w'' → w'.heap.size ≤ w''.heap.size → (∀ q, w.heap.size ≤ q → q < w'.heap.size → w''.heap[q]? = w'.heap[q]?) → Row w'' v 7 (turnedP p kk a b).blocks (BlkC w'') := by
  obtain ⟨wA, BA⟩ := boxed w #[.int .i64 p.params, .int .i64 p.holds, .int .i64 p.regs, .slice ab p.blocks.length cb] 40
  obtain ⟨w2, B2⟩ := boxed wA #[.int .i64 0, .int .i64 0, .int .i64 0, .slice none 0 0] 40
  obtain ⟨w3, B3⟩ := boxed w2 #[.int .i64 p.params, .int .i64 p.holds, .int .i64 p.regs, .slice none 0 0] 40
  have hsA := BA.size
  have hs2 := B2.size
  have HSZ : Hid (wA.heap.size = w.heap.size + 1 ∧ w2.heap.size = w.heap.size + 1 + 1) := ⟨hsA, by omega⟩
  have HXA := Lib.hid BA
  have HX2 := Lib.hid B2
  have HX3 := Lib.hid B3
  have HBW := Lib.hid (BA.below.trans (B2.below.mono BA.below.size))
  have HBW0 := Lib.hid (hb0.trans (HBW.out.mono hb0.size))
  have HROW := Lib.hid h
  have HFEW := Lib.hid hfew
  have HPB : Hid (w2.heap[w.heap.size]? = some (.cells #[.int .i64 p.params, .int .i64 p.holds, .int .i64 p.regs, .slice ab p.blocks.length cb] 40 (0, 0))) := (B2.below.block _ (by omega)).trans BA.blk
  have HRB : Hid (w2.heap[w.heap.size + 1]? = some (.cells #[.int .i64 0, .int .i64 0, .int .i64 0, .slice none 0 0] 40 (0, 0))) := by have := B2.blk; rw [hsA] at this; exact this
  have HO0 := Lib.hid (TuO.start (f := (turnN kk a b).blk kk) B3.blk HBW0.out (Nat.le_refl _) B3.below)
  obtain ⟨iI, hi0, hz0, hz1, hz2⟩ := info_parts infoInsN
  have HJ := Lib.hid hi0
  have HZ0 := Lib.hid hz0
  have HZ1 := Lib.hid hz1
  have HZ2 := Lib.hid hz2
  obtain ⟨iB, hj0, hy0, hy1, hy2⟩ := info_parts infoBlk
  have HK := Lib.hid hj0
  have HY0 := Lib.hid hy0
  have HY1 := Lib.hid hy1
  have HY2 := Lib.hid hy2
  clear BA B2 B3 hsA hs2 h hfew hi0 hz0 hz1 hz2 hj0 hy0 hy1 hy2
  go_enter Try.func13, Try.ntmps13
  go_wp2_with fail
  rw [← HXA.out.eq, ← HX2.out.eq, ← HX3.out.eq]
  have e2 : w.heap.size + 1 + 1 = w2.heap.size := HSZ.out.2.symm
  rw [e2]
  clear e2
  go_loopg [8] p.blocks.length (fun gk s8 wx => ∃ (i : Nat) (v : Value), i ≤ p.blocks.length ∧ gk = p.blocks.length - i ∧ s8 = .int .i64 i ∧ Hid (TuO w00 w2 wx ((turnN kk a b).blk kk) p w2.heap.size i v))
  case atStart => exact ⟨0, _, Nat.zero_le _, rfl, rfl, HO0.out⟩
  case round =>
    obtain ⟨i, v, hi, rfl, rfl, HO⟩ := hrel
    have hpb := (HO.out.below.block w.heap.size (by have := HSZ.out; omega)).trans HPB.out
    have q3 := cell_of_row wr _ 3 _ _ _ hpb
    simp only [List.getElem?_toArray, List.getElem?_cons_zero, List.getElem?_cons_succ] at q3
    have hql : w.heap.size < wr.heap.size := (Array.getElem?_eq_some_iff.1 hpb).1
    have HPBR := Lib.hid hpb
    clear hpb
    by_cases hlt : i < p.blocks.length
    · obtain ⟨x, hx⟩ : ∃ x, p.blocks[i]? = some x := ⟨_, List.getElem?_eq_getElem hlt⟩
      obtain ⟨_, bb, bo, rfl, hbb, hBC⟩ := HROW.out.at hx
      obtain ⟨⟨iv, i0, hIR⟩, i1, i2, ⟨av, i3, hSA⟩, i4, i5, i6⟩ := hBC
      obtain ⟨ai, ci, rfl⟩ := hIR.len
      obtain ⟨aa, ca, rfl⟩ := hSA.len
      have hil : (ints x.fin.args).length = x.fin.args.length := by simp [ints]
      rw [hil] at hSA i3
      have hW0 := HBW0.out.trans (HO.out.below.mono HBW0.out.size)
      have HBCELL : Hid (w00.cell? ⟨bb, bo + i * 7, none⟩ = some (.slice ai x.ins.length ci)) := i0
      have HBB := Lib.hid hbb
      have HFIN : Hid (w00.cell? ⟨bb, bo + i * 7 + 1, none⟩ = some (.int .i64 x.fin.kind) ∧ w00.cell? ⟨bb, bo + i * 7 + 2, none⟩ = some (.int .i64 x.fin.reg) ∧ w00.cell? ⟨bb, bo + i * 7 + 3, none⟩ = some (.slice aa x.fin.args.length ca) ∧ w00.cell? ⟨bb, bo + i * 7 + 4, none⟩ = some (.int .i64 x.fin.to) ∧ w00.cell? ⟨bb, bo + i * 7 + 5, none⟩ = some (.int .i64 x.fin.next) ∧ w00.cell? ⟨bb, bo + i * 7 + 6, none⟩ = some (.int .i64 x.fin.els)) := ⟨i1, i2, i3, i4, i5, i6⟩
      have HIR := Lib.hid hIR
      have HSA := Lib.hid hSA
      have HX := Lib.hid hx
      have hbbr : bb < wr.heap.size := Nat.lt_of_lt_of_le hbb hW0.size
      rw [← cell_bel hW0 hbb] at i0 i1 i2 i3 i4 i5 i6
      have g1 : (0 : Int) ≤ i := by omega
      have g2 : (i : Int) < p.blocks.length := by omega
      have hgw : IntKind.i64.wrap ((i : Int) + 1) = i + 1 := by rw [IntKind.wrap_i64]; have := HFEW.out.blocks; omega
      obtain ⟨wx0, BX⟩ := boxed wr #[.slice none 0 0, .int .i64 x.fin.kind, .int .i64 x.fin.reg, .slice aa x.fin.args.length ca, .int .i64 x.fin.to, .int .i64 x.fin.next, .int .i64 x.fin.els] 48
      have HBX := Lib.hid BX
      have HI0 := Lib.hid (TuI.start (f := (turnN kk a b).ins kk) (N := wr.heap.size) (av := .slice aa x.fin.args.length ca) BX.blk HBW0.out HO.out.below.size (HO.out.below.trans (BX.below.mono HO.out.below.size)) (Nat.le_refl _))
      clear hIR hSA hbb hx BX hil hW0
      go_wp2_with fail
      rw [← HBX.out.eq]
      obtain ⟨wo, hwo⟩ : ∃ wo, wo = wr := ⟨_, rfl⟩
      subst hwo
      go_loopg [10] x.ins.length (fun gk s10 wx => ∃ (k : Nat) (v2 : Value), k ≤ x.ins.length ∧ gk = x.ins.length - k ∧ s10 = .int .i64 k ∧ Hid (TuI w00 w2 wx ((turnN kk a b).ins kk) x wo.heap.size k wo.heap.size v2 (.slice aa x.fin.args.length ca)) ∧ Hid (Below wo.heap.size wo wx))
      case atStart => exact ⟨0, _, Nat.zero_le _, rfl, rfl, HI0.out, HBX.out.below⟩
      case round =>
        obtain ⟨k, v2, hk, rfl, rfl, HI, HB⟩ := hrel
        have hW := HO.out.below.trans (HB.out.mono HO.out.below.size)
        have HW := Lib.hid hW
        have hV := HBW0.out.trans (hW.mono HBW0.out.size)
        have HV := Lib.hid hV
        have hpb := (HB.out.block w.heap.size hql).trans HPBR.out
        have q3 := cell_of_row wr _ 3 _ _ _ hpb
        simp only [List.getElem?_toArray, List.getElem?_cons_zero, List.getElem?_cons_succ] at q3
        have hqlr : w.heap.size < wr.heap.size := (Array.getElem?_eq_some_iff.1 hpb).1
        have j0 := (cell_bel hV HBB.out).trans HBCELL.out
        have hbbr2 : bb < wr.heap.size := Nat.lt_of_lt_of_le HBB.out hV.size
        have hxb := HI.out.blk
        have x0 := cell_of_row wr _ 0 _ _ _ hxb
        simp only [List.getElem?_toArray, List.getElem?_cons_zero, List.getElem?_cons_succ] at x0
        have hxl : wo.heap.size < wr.heap.size := (Array.getElem?_eq_some_iff.1 hxb).1
        have HXB := Lib.hid hxb
        clear hpb hxb hW hV
        by_cases hltk : k < x.ins.length
        · obtain ⟨y, hy⟩ : ∃ y, x.ins[k]? = some y := ⟨_, List.getElem?_eq_getElem hltk⟩
          obtain ⟨_, bi, oi, ebi, hbi, hIC⟩ := HIR.out.at hy
          subst ebi
          obtain ⟨y0, y1, ⟨ay, y2, hya⟩, y3, y4, y5, ⟨ly, y6, hyd⟩, y7⟩ := hIC
          obtain ⟨aya, cya, rfl⟩ := hya.len
          have hyl : (ints y.args).length = y.args.length := by simp [ints]
          rw [hyl] at hya y2
          obtain ⟨ald, cld, hly⟩ := hyd.slice
          subst hly
          rw [← cell_bel HV.out hbi] at y0 y1 y2 y3 y4 y5 y6 y7
          have hbir : bi < wr.heap.size := Nat.lt_of_lt_of_le hbi HV.out.size
          have HYA := Lib.hid hya
          have HYD := Lib.hid hyd
          have HYI := Lib.hid hy
          have k1 : (0 : Int) ≤ k := by omega
          have k2 : (k : Int) < x.ins.length := by omega
          have kw : IntKind.i64.wrap ((k : Int) + 1) = k + 1 := by rw [IntKind.wrap_i64]; have := (HFEW.out.ins x (List.mem_of_getElem? HX.out)).1; omega
          have HYL : Hid (y.args.length ≤ 1000000) := (HFEW.out.ins x (List.mem_of_getElem? HX.out)).2.2 y (List.mem_of_getElem? hy)
          clear hya hyd hy hyl
          by_cases ht : y.op = sTie
          · have gT : (y.op.toList == [116, 105, 101]) = true := by rw [ht, Lib.toList_data]; rfl
            have HT := Lib.hid ht
            clear ht
            go_wp2_with fail
            obtain ⟨wy, BY⟩ := boxed wr #[.string y.op, .int .i64 y.to, .slice aya y.args.length cya, .int .i64 y.const.kind, .int .i64 y.const.int, .string y.const.text, .slice ald y.const.list.length cld, .int .i64 y.num] 55
            rw [← BY.eq]
            have h2y := HV.out.trans (BY.below.mono HV.out.size)
            with_reducible refine (others_any y.args aya cya a b wy (HYA.out.below h2y (Nat.le_refl _)) HYL.out).mono ?_
            rintro e w5 ⟨ga, c5, rfl, hown5, hb5⟩
            have HOA := Lib.hid hown5
            have hry := BY.below.trans (hb5.mono BY.below.size)
            have HRY := Lib.hid hry
            have hsy := BY.size
            have HSY := Lib.hid hsy
            have hyb := (hb5.block wr.heap.size (by omega)).trans BY.blk
            have hxb5 := (hry.block wo.heap.size hxl).trans HXB.out
            have z0 := cell_of_row w5 _ 0 _ _ _ hyb
            have z1 := cell_of_row w5 _ 1 _ _ _ hyb
            have z2 := cell_of_row w5 _ 2 _ _ _ hyb
            have z3 := cell_of_row w5 _ 3 _ _ _ hyb
            have z4 := cell_of_row w5 _ 4 _ _ _ hyb
            have z5 := cell_of_row w5 _ 5 _ _ _ hyb
            have z6 := cell_of_row w5 _ 6 _ _ _ hyb
            have z7 := cell_of_row w5 _ 7 _ _ _ hyb
            have x05 := cell_of_row w5 _ 0 _ _ _ hxb5
            simp only [List.getElem?_toArray, List.getElem?_cons_zero, List.getElem?_cons_succ] at z0 z1 z2 z3 z4 z5 z6 z7 x05
            have z2f : w5.frozen? ⟨wr.heap.size, 2, none⟩ = false := frozen_of_row w5 _ _ _ _ hyb
            have hyl5 : wr.heap.size < w5.heap.size := (Array.getElem?_eq_some_iff.1 hyb).1
            have hxl5 : wo.heap.size < w5.heap.size := (Array.getElem?_eq_some_iff.1 hxb5).1
            have hxy : wo.heap.size ≠ wr.heap.size := by omega
            have hyx : wr.heap.size ≠ wo.heap.size := by omega
            have HI2 := Lib.hid (turnI kk a b y)
            obtain ⟨ics, o1, o2, o3⟩ := HI.out.row
            have HCS : Hid (wr.ownsRow w2.heap.size 55 8 v2 k ics ∧ (∀ w', Keep w00 w2 wr (fun q => q = wo.heap.size ∨ v2.ownBlock = some q ∨ q < wo.heap.size) w' → ICs w' ics ((x.ins.take k).map ((turnN kk a b).ins kk))) ∧ ∀ q, v2.ownBlock = some q → q ≠ wo.heap.size) := ⟨o1, o2, o3⟩
            obtain ⟨w6, hw6⟩ : ∃ w6, w6 = w5.setCell ⟨wr.heap.size, 2, none⟩ (.slice (some ⟨ga, 0, none⟩) y.args.length c5) := ⟨_, rfl⟩
            have hr6 : Below wr.heap.size wr w6 := by rw [hw6]; exact hry.setCell (p := ⟨wr.heap.size, 2, none⟩) (Nat.le_refl _) _
            have HR6 := Lib.hid hr6
            have HS6 : Hid (w5.heap.size = w6.heap.size) := by rw [hw6]; simp [World.setCell, Hid]
            have HOV : Hid (w6.ownsRow w2.heap.size 55 8 v2 k ics) := own_same o1 fun q e => hr6.block q (o1.lt q e).2
            have HO6 : Hid (w6.ownsRow wr.heap.size 3 1 (.slice (some ⟨ga, 0, none⟩) y.args.length c5) y.args.length (ints (y.args.map fun r => other r a b))) := by
              rw [hw6]
              exact own_set_ne (own_lo hown5 (by omega)) (fun q e => by have e2 : ga = q := (by simpa [Value.ownBlock] using e); have := (hown5.lt ga rfl).1; omega) _
            obtain ⟨a2, c2, hv2⟩ := own_slice o1
            subst hv2
            have HW6 := Lib.hid hw6
            clear BY h2y hown5 hry hsy hyb hxb5 o1 o2 o3 hw6 hr6 hb5
            go_wp2_with (first
              | (at_builtin; rw [← HW6.out]; refine wpList_append_lies _ rfl (.tmp 70) (.tmp 72) 46 rfl w2.heap.size 55 iI _ 8 112 Try.underlying46 HJ.out HZ0.out HZ1.out HZ2.out rfl (by decide) (.slice a2 k c2) k ics rfl (HOV.out.alloc _) ⟨w5.heap.size, 0, none⟩ 1 1 [.string y.op, .int .i64 y.to, .slice (some ⟨ga, 0, none⟩) y.args.length c5, .int .i64 y.const.kind, .int .i64 y.const.int, .string y.const.text, .slice ald y.const.list.length cld, .int .i64 y.num] rfl rfl (by have e6 : w5.heap.size = w6.heap.size := HS6.out; rw [e6]; exact new_cells _ (heap_alloc_new w6 _)) (by simp [Value.oneCell']) (by decide) (by have := (HFEW.out.ins x (List.mem_of_getElem? HX.out)).1; simp only [maxLen]; omega) (by have := (HFEW.out.ins x (List.mem_of_getElem? HX.out)).1; omega) (by have := HR6.out.size; have := HW.out.size; simp; omega) (w5.heap.size + 1) (by simp; exact HS6.out.symm) ?_; intro g7 c7 w7 hown7 hgr7 hat7 hlt7; have HE7 : Hid (insCs ((turnN kk a b).ins kk y) (.slice (some ⟨ga, 0, none⟩) y.args.length c5) (.slice ald y.const.list.length cld) = [.string y.op, .int .i64 y.to, .slice (some ⟨ga, 0, none⟩) y.args.length c5, .int .i64 y.const.kind, .int .i64 y.const.int, .string y.const.text, .slice ald y.const.list.length cld, .int .i64 y.num]) := (by rw [HI2.out]; unfold insCs; dsimp only; rw [if_pos HT.out]; rfl); have HNX := Lib.hid (TuI.next (ga := ga) HI.out HYI.out HCS.out ((HR6.out).alloc HR6.out.size (.cells #[.string y.op, .int .i64 y.to, .slice (some ⟨ga, 0, none⟩) y.args.length c5, .int .i64 y.const.kind, .int .i64 y.const.int, .string y.const.text, .slice ald y.const.list.length cld, .int .i64 y.num] 55)) ⟨_, _, by rw [HI2.out]; exact (HO6.out.alloc _), rfl⟩ (lw := .slice ald y.const.list.length cld) (by rw [HI2.out]; exact HYD.out) (by rw [HE7.out]; exact hown7) hgr7 (hat7.imp id fun e => by rw [World.heap_size_alloc, ← HS6.out]; exact e)); have hx7 := (hgr7.block wo.heap.size (by have := HR6.out.size; simp; omega) (fun e => HCS.out.2.2 _ e.symm rfl)).trans ((heap_alloc_old _ _ (by have := HR6.out.size; omega)).trans ((HR6.out.block wo.heap.size hxl).trans HXB.out)); have m0 := cell_of_row w7 _ 0 _ _ _ hx7; simp only [List.getElem?_toArray, List.getElem?_cons_zero] at m0; have m0f : w7.frozen? ⟨wo.heap.size, 0, none⟩ = false := frozen_of_row w7 _ _ _ _ hx7; have ml7 : wo.heap.size < w7.heap.size := (Array.getElem?_eq_some_iff.1 hx7).1; have HB7 := Lib.hid (((((HB.out.trans (HR6.out.mono HB.out.size)).alloc (Nat.le_trans HB.out.size HR6.out.size) (.cells #[.string y.op, .int .i64 y.to, .slice (some ⟨ga, 0, none⟩) y.args.length c5, .int .i64 y.const.kind, .int .i64 y.const.int, .string y.const.text, .slice ald y.const.list.length cld, .int .i64 y.num] 55)).grown hgr7 (by have := HB.out.size; have := HR6.out.size; simp; omega) (fun q e => HI.out.hi.2.2 q e)).setCell (p := ⟨wo.heap.size, 0, none⟩) (Nat.le_refl _) (.slice (some ⟨g7, 0, none⟩) (k + 1) c7))); clear hown7 hgr7 hat7 hlt7 hx7)
              | fail)
            go_roundg (x.ins.length - (k + 1))
            case measure => omega
            case rel => exact ⟨k + 1, _, by omega, rfl, by go_num, HNX.out, HB7.out⟩
          · have gT : (y.op.toList == [116, 105, 101]) = false := ba_ne ht
            have HT := Lib.hid ht
            clear ht
            go_wp2_with fail
            with_reducible refine (other_any y.to a b _).mono ?_
            rintro e w4 ⟨rfl, rfl⟩
            go_wp2_with fail
            obtain ⟨wy, BY⟩ := boxed wr #[.string y.op, .int .i64 (other y.to a b), .slice aya y.args.length cya, .int .i64 y.const.kind, .int .i64 y.const.int, .string y.const.text, .slice ald y.const.list.length cld, .int .i64 y.num] 55
            rw [← BY.eq]
            have h2y := HV.out.trans (BY.below.mono HV.out.size)
            with_reducible refine (others_any y.args aya cya a b wy (HYA.out.below h2y (Nat.le_refl _)) HYL.out).mono ?_
            rintro e w5 ⟨ga, c5, rfl, hown5, hb5⟩
            have HOA := Lib.hid hown5
            have hry := BY.below.trans (hb5.mono BY.below.size)
            have HRY := Lib.hid hry
            have hsy := BY.size
            have HSY := Lib.hid hsy
            have hyb := (hb5.block wr.heap.size (by omega)).trans BY.blk
            have hxb5 := (hry.block wo.heap.size hxl).trans HXB.out
            have z0 := cell_of_row w5 _ 0 _ _ _ hyb
            have z1 := cell_of_row w5 _ 1 _ _ _ hyb
            have z2 := cell_of_row w5 _ 2 _ _ _ hyb
            have z3 := cell_of_row w5 _ 3 _ _ _ hyb
            have z4 := cell_of_row w5 _ 4 _ _ _ hyb
            have z5 := cell_of_row w5 _ 5 _ _ _ hyb
            have z6 := cell_of_row w5 _ 6 _ _ _ hyb
            have z7 := cell_of_row w5 _ 7 _ _ _ hyb
            have x05 := cell_of_row w5 _ 0 _ _ _ hxb5
            simp only [List.getElem?_toArray, List.getElem?_cons_zero, List.getElem?_cons_succ] at z0 z1 z2 z3 z4 z5 z6 z7 x05
            have z2f : w5.frozen? ⟨wr.heap.size, 2, none⟩ = false := frozen_of_row w5 _ _ _ _ hyb
            have hyl5 : wr.heap.size < w5.heap.size := (Array.getElem?_eq_some_iff.1 hyb).1
            have hxl5 : wo.heap.size < w5.heap.size := (Array.getElem?_eq_some_iff.1 hxb5).1
            have hxy : wo.heap.size ≠ wr.heap.size := by omega
            have hyx : wr.heap.size ≠ wo.heap.size := by omega
            have HI2 := Lib.hid (turnI kk a b y)
            obtain ⟨ics, o1, o2, o3⟩ := HI.out.row
            have HCS : Hid (wr.ownsRow w2.heap.size 55 8 v2 k ics ∧ (∀ w', Keep w00 w2 wr (fun q => q = wo.heap.size ∨ v2.ownBlock = some q ∨ q < wo.heap.size) w' → ICs w' ics ((x.ins.take k).map ((turnN kk a b).ins kk))) ∧ ∀ q, v2.ownBlock = some q → q ≠ wo.heap.size) := ⟨o1, o2, o3⟩
            obtain ⟨w6, hw6⟩ : ∃ w6, w6 = w5.setCell ⟨wr.heap.size, 2, none⟩ (.slice (some ⟨ga, 0, none⟩) y.args.length c5) := ⟨_, rfl⟩
            have hr6 : Below wr.heap.size wr w6 := by rw [hw6]; exact hry.setCell (p := ⟨wr.heap.size, 2, none⟩) (Nat.le_refl _) _
            have HR6 := Lib.hid hr6
            have HS6 : Hid (w5.heap.size = w6.heap.size) := by rw [hw6]; simp [World.setCell, Hid]
            have HOV : Hid (w6.ownsRow w2.heap.size 55 8 v2 k ics) := own_same o1 fun q e => hr6.block q (o1.lt q e).2
            have HO6 : Hid (w6.ownsRow wr.heap.size 3 1 (.slice (some ⟨ga, 0, none⟩) y.args.length c5) y.args.length (ints (y.args.map fun r => other r a b))) := by
              rw [hw6]
              exact own_set_ne (own_lo hown5 (by omega)) (fun q e => by have e2 : ga = q := (by simpa [Value.ownBlock] using e); have := (hown5.lt ga rfl).1; omega) _
            obtain ⟨a2, c2, hv2⟩ := own_slice o1
            subst hv2
            have HW6 := Lib.hid hw6
            clear BY h2y hown5 hry hsy hyb hxb5 o1 o2 o3 hw6 hr6 hb5
            go_wp2_with (first
              | (at_builtin; rw [← HW6.out]; refine wpList_append_lies _ rfl (.tmp 70) (.tmp 72) 46 rfl w2.heap.size 55 iI _ 8 112 Try.underlying46 HJ.out HZ0.out HZ1.out HZ2.out rfl (by decide) (.slice a2 k c2) k ics rfl (HOV.out.alloc _) ⟨w5.heap.size, 0, none⟩ 1 1 [.string y.op, .int .i64 (other y.to a b), .slice (some ⟨ga, 0, none⟩) y.args.length c5, .int .i64 y.const.kind, .int .i64 y.const.int, .string y.const.text, .slice ald y.const.list.length cld, .int .i64 y.num] rfl rfl (by have e6 : w5.heap.size = w6.heap.size := HS6.out; rw [e6]; exact new_cells _ (heap_alloc_new w6 _)) (by simp [Value.oneCell']) (by decide) (by have := (HFEW.out.ins x (List.mem_of_getElem? HX.out)).1; simp only [maxLen]; omega) (by have := (HFEW.out.ins x (List.mem_of_getElem? HX.out)).1; omega) (by have := HR6.out.size; have := HW.out.size; simp; omega) (w5.heap.size + 1) (by simp; exact HS6.out.symm) ?_; intro g7 c7 w7 hown7 hgr7 hat7 hlt7; have HE7 : Hid (insCs ((turnN kk a b).ins kk y) (.slice (some ⟨ga, 0, none⟩) y.args.length c5) (.slice ald y.const.list.length cld) = [.string y.op, .int .i64 (other y.to a b), .slice (some ⟨ga, 0, none⟩) y.args.length c5, .int .i64 y.const.kind, .int .i64 y.const.int, .string y.const.text, .slice ald y.const.list.length cld, .int .i64 y.num]) := (by rw [HI2.out]; unfold insCs; dsimp only; rw [if_neg HT.out]; rfl); have HNX := Lib.hid (TuI.next (ga := ga) HI.out HYI.out HCS.out ((HR6.out).alloc HR6.out.size (.cells #[.string y.op, .int .i64 (other y.to a b), .slice (some ⟨ga, 0, none⟩) y.args.length c5, .int .i64 y.const.kind, .int .i64 y.const.int, .string y.const.text, .slice ald y.const.list.length cld, .int .i64 y.num] 55)) ⟨_, _, by rw [HI2.out]; exact (HO6.out.alloc _), rfl⟩ (lw := .slice ald y.const.list.length cld) (by rw [HI2.out]; exact HYD.out) (by rw [HE7.out]; exact hown7) hgr7 (hat7.imp id fun e => by rw [World.heap_size_alloc, ← HS6.out]; exact e)); have hx7 := (hgr7.block wo.heap.size (by have := HR6.out.size; simp; omega) (fun e => HCS.out.2.2 _ e.symm rfl)).trans ((heap_alloc_old _ _ (by have := HR6.out.size; omega)).trans ((HR6.out.block wo.heap.size hxl).trans HXB.out)); have m0 := cell_of_row w7 _ 0 _ _ _ hx7; simp only [List.getElem?_toArray, List.getElem?_cons_zero] at m0; have m0f : w7.frozen? ⟨wo.heap.size, 0, none⟩ = false := frozen_of_row w7 _ _ _ _ hx7; have ml7 : wo.heap.size < w7.heap.size := (Array.getElem?_eq_some_iff.1 hx7).1; have HB7 := Lib.hid (((((HB.out.trans (HR6.out.mono HB.out.size)).alloc (Nat.le_trans HB.out.size HR6.out.size) (.cells #[.string y.op, .int .i64 (other y.to a b), .slice (some ⟨ga, 0, none⟩) y.args.length c5, .int .i64 y.const.kind, .int .i64 y.const.int, .string y.const.text, .slice ald y.const.list.length cld, .int .i64 y.num] 55)).grown hgr7 (by have := HB.out.size; have := HR6.out.size; simp; omega) (fun q e => HI.out.hi.2.2 q e)).setCell (p := ⟨wo.heap.size, 0, none⟩) (Nat.le_refl _) (.slice (some ⟨g7, 0, none⟩) (k + 1) c7))); clear hown7 hgr7 hat7 hlt7 hx7)
              | fail)
            go_roundg (x.ins.length - (k + 1))
            case measure => omega
            case rel => exact ⟨k + 1, _, by omega, rfl, by go_num, HNX.out, HB7.out⟩
        · obtain rfl : k = x.ins.length := by omega
          obtain ⟨_, io1, _, _⟩ := HI.out.row
          obtain ⟨a2, c2, hv2⟩ := own_slice io1
          subst hv2
          have i1 := (cell_bel HV.out HBB.out).trans HFIN.out.1
          have i2 := (cell_bel HV.out HBB.out).trans HFIN.out.2.1
          have i3 := (cell_bel HV.out HBB.out).trans HFIN.out.2.2.1
          have i4 := (cell_bel HV.out HBB.out).trans HFIN.out.2.2.2.1
          have i5 := (cell_bel HV.out HBB.out).trans HFIN.out.2.2.2.2.1
          have i6 := (cell_bel HV.out HBB.out).trans HFIN.out.2.2.2.2.2
          have x2 := cell_of_row wr _ 2 _ _ _ HXB.out
          have x4 := cell_of_row wr _ 4 _ _ _ HXB.out
          simp only [List.getElem?_toArray, List.getElem?_cons_zero, List.getElem?_cons_succ] at x2 x4
          have x2f : wr.frozen? ⟨wo.heap.size, 2, none⟩ = false := frozen_of_row wr _ _ _ _ HXB.out
          have x4f : wr.frozen? ⟨wo.heap.size, 4, none⟩ = false := frozen_of_row wr _ _ _ _ HXB.out
          clear io1
          by_cases hk0 : x.fin.kind = 0
          · have HK0 := Lib.hid hk0
            have f0 : (x.fin.kind == 0) = true := by rw [hk0]; rfl
            have f0' : (x.fin.kind != 0) = false := by rw [hk0]; rfl
            have f4 : (x.fin.kind == 4) = false := by rw [hk0]; rfl
            have f6 : (x.fin.kind == 6) = false := by rw [hk0]; rfl
            clear hk0
            go_wp2_with fail
            obtain ⟨wz, hwz⟩ : ∃ wz, wz = wr := ⟨_, rfl⟩
            have hz0 : wz.heap[wo.heap.size]? = some (.cells #[.slice a2 x.ins.length c2, .int .i64 x.fin.kind, .int .i64 x.fin.reg, .slice aa x.fin.args.length ca, .int .i64 x.fin.to, .int .i64 x.fin.next, .int .i64 x.fin.els] 48 (0, 0)) := by
              rw [hwz]
              exact HXB.out
            have hzo : ∀ q, q ≠ wo.heap.size → wz.heap[q]? = wr.heap[q]? := fun q hq => by
              rw [hwz]
            have hzs : wz.heap.size = wr.heap.size := by rw [hwz]
            have hzb : Below wo.heap.size wo wz := by
              rw [hwz]
              exact HB.out
            obtain ⟨wy, BY⟩ := boxed wz #[.int .i64 x.fin.kind, .int .i64 x.fin.reg, .slice aa x.fin.args.length ca, .int .i64 x.fin.to, .int .i64 x.fin.next, .int .i64 x.fin.els] 45
            rw [← hwz, ← BY.eq]
            have hoy : Below wo.heap.size wo wy := hzb.trans (BY.below.mono (by have := hzb.size; omega))
            have h2y := HBW0.out.trans ((HO.out.below.trans (hoy.mono HO.out.below.size)).mono HBW0.out.size)
            with_reducible refine (others_any x.fin.args aa ca a b wy (HSA.out.below h2y (Nat.le_refl _)) (HFEW.out.ins x (List.mem_of_getElem? HX.out)).2.1).mono ?_
            rintro e w5 ⟨ga, c5, rfl, hown5, hb5⟩
            have hsy := BY.size
            have hxb5 := (hb5.block wo.heap.size (by omega)).trans ((BY.below.block _ (by omega)).trans hz0)
            have ho5 : Below wo.heap.size wo w5 := hoy.trans (hb5.mono hoy.size)
            have hob5 := (ho5.block w2.heap.size (Array.getElem?_eq_some_iff.1 HO.out.blk).1).trans HO.out.blk
            have hobl : w2.heap.size < wo.heap.size := (Array.getElem?_eq_some_iff.1 HO.out.blk).1
            have z0 := cell_of_row w5 _ 0 _ _ _ hxb5
            have z1 := cell_of_row w5 _ 1 _ _ _ hxb5
            have z2 := cell_of_row w5 _ 2 _ _ _ hxb5
            have z3 := cell_of_row w5 _ 3 _ _ _ hxb5
            have z4 := cell_of_row w5 _ 4 _ _ _ hxb5
            have z5 := cell_of_row w5 _ 5 _ _ _ hxb5
            have z6 := cell_of_row w5 _ 6 _ _ _ hxb5
            have u3 := cell_of_row w5 _ 3 _ _ _ hob5
            simp only [List.getElem?_toArray, List.getElem?_cons_zero, List.getElem?_cons_succ] at z0 z1 z2 z3 z4 z5 z6 u3
            have z3f : w5.frozen? ⟨wo.heap.size, 3, none⟩ = false := frozen_of_row w5 _ _ _ _ hxb5
            have hxl5 : wo.heap.size < w5.heap.size := (Array.getElem?_eq_some_iff.1 hxb5).1
            have hol5 : w2.heap.size < w5.heap.size := (Array.getElem?_eq_some_iff.1 hob5).1
            have hxo : wo.heap.size ≠ w2.heap.size := by omega
            have hox : w2.heap.size ≠ wo.heap.size := by omega
            have HF2 := Lib.hid (turnF kk a b x.fin)
            obtain ⟨bcs, o1, o2, o3⟩ := HO.out.row
            have HCS : Hid (wo.ownsRow w2.heap.size 48 7 v i bcs ∧ (∀ w', Keep w00 w2 wo (fun q => q = w2.heap.size ∨ v.ownBlock = some q) w' → BCs w' bcs ((p.blocks.take i).map ((turnN kk a b).blk kk))) ∧ ∀ q, v.ownBlock = some q → q ≠ w2.heap.size) := ⟨o1, o2, o3⟩
            obtain ⟨w6, hw6⟩ : ∃ w6, w6 = w5.setCell ⟨wo.heap.size, 3, none⟩ (.slice (some ⟨ga, 0, none⟩) x.fin.args.length c5) := ⟨_, rfl⟩
            have ho6 : Below wo.heap.size wo w6 := by rw [hw6]; exact ho5.setCell (p := ⟨wo.heap.size, 3, none⟩) (Nat.le_refl _) _
            have HR6 := Lib.hid ho6
            have HS6 : Hid (w5.heap.size = w6.heap.size) := by rw [hw6]; simp [World.setCell, Hid]
            have HOV : Hid (w6.ownsRow w2.heap.size 48 7 v i bcs) := own_same o1 fun q e => ho6.block q (o1.lt q e).2
            have hzw := hzb.size
            have HO6 : Hid (w6.ownsRow wo.heap.size 3 1 (.slice (some ⟨ga, 0, none⟩) x.fin.args.length c5) x.fin.args.length (ints (x.fin.args.map fun r => other r a b))) := by
              rw [hw6]
              exact own_set_ne (own_lo hown5 (by omega)) (fun q e => by have e2 : ga = q := (by simpa [Value.ownBlock] using e); have := (hown5.lt ga rfl).1; omega) _
            have HIY : Hid (∀ q, q < wr.heap.size → q ≠ wo.heap.size → w6.heap[q]? = wr.heap[q]?) := fun q hq hn => by
              rw [hw6]
              exact (heap_setCell_other _ _ _ _ hn).trans ((hb5.block q (by omega)).trans ((BY.below.block q (by omega)).trans (hzo q hn)))
            have HIZ : Hid (wr.heap.size ≤ w6.heap.size) := by have := HS6.out; have := hb5.size; exact (by omega : wr.heap.size ≤ w6.heap.size)
            obtain ⟨a3, c3, hv⟩ := own_slice o1
            subst hv
            have HW6 := Lib.hid hw6
            have HNB := HFEW.out.blocks
            clear BY h2y hown5 hsy hxb5 o1 o2 o3 hw6 ho6 hb5 hwz hz0 hzo hzs hzb hoy ho5 hob5 hzw
            go_wp2_with (first
              | (at_builtin; rw [← HW6.out]; refine wpList_append_lies _ rfl (.tmp 114) (.tmp 116) 38 rfl w2.heap.size 48 iB _ 7 88 Try.underlying38 HK.out HY0.out HY1.out HY2.out rfl (by decide) (.slice a3 i c3) i bcs rfl (HOV.out.alloc _) ⟨w5.heap.size, 0, none⟩ 1 1 [.slice a2 x.ins.length c2, .int .i64 x.fin.kind, .int .i64 x.fin.reg, .slice (some ⟨ga, 0, none⟩) x.fin.args.length c5, .int .i64 x.fin.to, .int .i64 x.fin.next, .int .i64 x.fin.els] rfl rfl (by have e6 : w5.heap.size = w6.heap.size := HS6.out; rw [e6]; exact new_cells _ (heap_alloc_new w6 _)) (by simp [Value.oneCell']) (by decide) (by simp only [maxLen]; omega) (by omega) (by have := HR6.out.size; simp; omega) (w5.heap.size + 1) (by simp; exact HS6.out.symm) ?_; intro g7 c7 w7 hown7 hgr7 hat7 hlt7; have HE7 : Hid (blkCs ((turnN kk a b).blk kk x) (.slice a2 x.ins.length c2) (.slice (some ⟨ga, 0, none⟩) x.fin.args.length c5) = [.slice a2 x.ins.length c2, .int .i64 x.fin.kind, .int .i64 x.fin.reg, .slice (some ⟨ga, 0, none⟩) x.fin.args.length c5, .int .i64 x.fin.to, .int .i64 x.fin.next, .int .i64 x.fin.els]) := (by unfold blkCs Turn.blk; rw [HF2.out]; dsimp only; rw [if_pos HK0.out, if_neg (by have := HK0.out; omega)]; rfl); have HNX := Lib.hid (TuO.next (ga := ga) HO.out HX.out HCS.out HI.out rfl rfl (HR6.out.alloc HR6.out.size (.cells #[.slice a2 x.ins.length c2, .int .i64 x.fin.kind, .int .i64 x.fin.reg, .slice (some ⟨ga, 0, none⟩) x.fin.args.length c5, .int .i64 x.fin.to, .int .i64 x.fin.next, .int .i64 x.fin.els] 48)) (fun q q1 q2 => (heap_alloc_old _ _ (Nat.lt_of_lt_of_le q1 HIZ.out)).trans (HIY.out q q1 q2)) (by rw [World.heap_size_alloc]; exact Nat.le_succ_of_le HIZ.out) ⟨_, _, by unfold Turn.blk; rw [HF2.out]; exact (HO6.out.alloc _), rfl⟩ (by rw [HE7.out]; exact hown7) hgr7 (hat7.imp id fun e => by rw [World.heap_size_alloc, ← HS6.out]; exact e)); have hx7 := (hgr7.block w2.heap.size (by have := HR6.out.size; simp; omega) (fun e => HCS.out.2.2 _ e.symm rfl)).trans ((heap_alloc_old _ _ (by have := HR6.out.size; omega)).trans ((HR6.out.block w2.heap.size hobl).trans HO.out.blk)); have m3 := cell_of_row w7 _ 3 _ _ _ hx7; simp only [List.getElem?_toArray, List.getElem?_cons_zero, List.getElem?_cons_succ] at m3; have m3f : w7.frozen? ⟨w2.heap.size, 3, none⟩ = false := frozen_of_row w7 _ _ _ _ hx7; have ml7 : w2.heap.size < w7.heap.size := (Array.getElem?_eq_some_iff.1 hx7).1; clear hown7 hgr7 hat7 hlt7 hx7)
              | fail)
            go_roundg (p.blocks.length - (i + 1))
            case measure => omega
            case rel => exact ⟨i + 1, _, by omega, rfl, by go_num, HNX.out⟩
          have HK0 := Lib.hid hk0
          have f0 : (x.fin.kind == 0) = false := beq_eq_false_iff_ne.2 hk0
          have f0' : (x.fin.kind != 0) = true := by rw [bne_iff_ne]; exact hk0
          by_cases hk4 : x.fin.kind = 4
          · have HK46 : Hid (x.fin.kind = 4 ∨ x.fin.kind = 6) := .inl hk4
            have f4 : (x.fin.kind == 4) = true := by rw [hk4]; rfl
            clear hk0 hk4
            go_wp2_with fail
            with_reducible refine (other_any _ a b _).mono ?_
            rintro e w4 ⟨rfl, rfl⟩
            go_wp2_with fail
            with_reducible refine (other_any _ a b _).mono ?_
            rintro e w4 ⟨rfl, rfl⟩
            go_wp2_with fail
            obtain ⟨wz, hwz⟩ : ∃ wz, wz = ((wr.setCell ⟨wo.heap.size, 2, none⟩ (.int .i64 (other x.fin.reg a b))).setCell ⟨wo.heap.size, 4, none⟩ (.int .i64 (other x.fin.to a b))) := ⟨_, rfl⟩
            have hz0 : wz.heap[wo.heap.size]? = some (.cells #[.slice a2 x.ins.length c2, .int .i64 x.fin.kind, .int .i64 (other x.fin.reg a b), .slice aa x.fin.args.length ca, .int .i64 (other x.fin.to a b), .int .i64 x.fin.next, .int .i64 x.fin.els] 48 (0, 0)) := by
              rw [hwz]
              exact heap_setCell_same _ _ 4 _ _ _ (heap_setCell_same _ _ 2 _ _ _ HXB.out)
            have hzo : ∀ q, q ≠ wo.heap.size → wz.heap[q]? = wr.heap[q]? := fun q hq => by
              rw [hwz]
              rw [heap_setCell_other _ _ _ _ hq, heap_setCell_other _ _ _ _ hq]
            have hzs : wz.heap.size = wr.heap.size := by rw [hwz]; simp [World.setCell]
            have hzb : Below wo.heap.size wo wz := by
              rw [hwz]
              exact (HB.out.setCell (p := ⟨wo.heap.size, 2, none⟩) (Nat.le_refl _) _).setCell (p := ⟨wo.heap.size, 4, none⟩) (Nat.le_refl _) _
            obtain ⟨wy, BY⟩ := boxed wz #[.int .i64 x.fin.kind, .int .i64 x.fin.reg, .slice aa x.fin.args.length ca, .int .i64 x.fin.to, .int .i64 x.fin.next, .int .i64 x.fin.els] 45
            rw [← hwz, ← BY.eq]
            have hoy : Below wo.heap.size wo wy := hzb.trans (BY.below.mono (by have := hzb.size; omega))
            have h2y := HBW0.out.trans ((HO.out.below.trans (hoy.mono HO.out.below.size)).mono HBW0.out.size)
            with_reducible refine (others_any x.fin.args aa ca a b wy (HSA.out.below h2y (Nat.le_refl _)) (HFEW.out.ins x (List.mem_of_getElem? HX.out)).2.1).mono ?_
            rintro e w5 ⟨ga, c5, rfl, hown5, hb5⟩
            have hsy := BY.size
            have hxb5 := (hb5.block wo.heap.size (by omega)).trans ((BY.below.block _ (by omega)).trans hz0)
            have ho5 : Below wo.heap.size wo w5 := hoy.trans (hb5.mono hoy.size)
            have hob5 := (ho5.block w2.heap.size (Array.getElem?_eq_some_iff.1 HO.out.blk).1).trans HO.out.blk
            have hobl : w2.heap.size < wo.heap.size := (Array.getElem?_eq_some_iff.1 HO.out.blk).1
            have z0 := cell_of_row w5 _ 0 _ _ _ hxb5
            have z1 := cell_of_row w5 _ 1 _ _ _ hxb5
            have z2 := cell_of_row w5 _ 2 _ _ _ hxb5
            have z3 := cell_of_row w5 _ 3 _ _ _ hxb5
            have z4 := cell_of_row w5 _ 4 _ _ _ hxb5
            have z5 := cell_of_row w5 _ 5 _ _ _ hxb5
            have z6 := cell_of_row w5 _ 6 _ _ _ hxb5
            have u3 := cell_of_row w5 _ 3 _ _ _ hob5
            simp only [List.getElem?_toArray, List.getElem?_cons_zero, List.getElem?_cons_succ] at z0 z1 z2 z3 z4 z5 z6 u3
            have z3f : w5.frozen? ⟨wo.heap.size, 3, none⟩ = false := frozen_of_row w5 _ _ _ _ hxb5
            have hxl5 : wo.heap.size < w5.heap.size := (Array.getElem?_eq_some_iff.1 hxb5).1
            have hol5 : w2.heap.size < w5.heap.size := (Array.getElem?_eq_some_iff.1 hob5).1
            have hxo : wo.heap.size ≠ w2.heap.size := by omega
            have hox : w2.heap.size ≠ wo.heap.size := by omega
            have HF2 := Lib.hid (turnF kk a b x.fin)
            obtain ⟨bcs, o1, o2, o3⟩ := HO.out.row
            have HCS : Hid (wo.ownsRow w2.heap.size 48 7 v i bcs ∧ (∀ w', Keep w00 w2 wo (fun q => q = w2.heap.size ∨ v.ownBlock = some q) w' → BCs w' bcs ((p.blocks.take i).map ((turnN kk a b).blk kk))) ∧ ∀ q, v.ownBlock = some q → q ≠ w2.heap.size) := ⟨o1, o2, o3⟩
            obtain ⟨w6, hw6⟩ : ∃ w6, w6 = w5.setCell ⟨wo.heap.size, 3, none⟩ (.slice (some ⟨ga, 0, none⟩) x.fin.args.length c5) := ⟨_, rfl⟩
            have ho6 : Below wo.heap.size wo w6 := by rw [hw6]; exact ho5.setCell (p := ⟨wo.heap.size, 3, none⟩) (Nat.le_refl _) _
            have HR6 := Lib.hid ho6
            have HS6 : Hid (w5.heap.size = w6.heap.size) := by rw [hw6]; simp [World.setCell, Hid]
            have HOV : Hid (w6.ownsRow w2.heap.size 48 7 v i bcs) := own_same o1 fun q e => ho6.block q (o1.lt q e).2
            have hzw := hzb.size
            have HO6 : Hid (w6.ownsRow wo.heap.size 3 1 (.slice (some ⟨ga, 0, none⟩) x.fin.args.length c5) x.fin.args.length (ints (x.fin.args.map fun r => other r a b))) := by
              rw [hw6]
              exact own_set_ne (own_lo hown5 (by omega)) (fun q e => by have e2 : ga = q := (by simpa [Value.ownBlock] using e); have := (hown5.lt ga rfl).1; omega) _
            have HIY : Hid (∀ q, q < wr.heap.size → q ≠ wo.heap.size → w6.heap[q]? = wr.heap[q]?) := fun q hq hn => by
              rw [hw6]
              exact (heap_setCell_other _ _ _ _ hn).trans ((hb5.block q (by omega)).trans ((BY.below.block q (by omega)).trans (hzo q hn)))
            have HIZ : Hid (wr.heap.size ≤ w6.heap.size) := by have := HS6.out; have := hb5.size; exact (by omega : wr.heap.size ≤ w6.heap.size)
            obtain ⟨a3, c3, hv⟩ := own_slice o1
            subst hv
            have HW6 := Lib.hid hw6
            have HNB := HFEW.out.blocks
            clear BY h2y hown5 hsy hxb5 o1 o2 o3 hw6 ho6 hb5 hwz hz0 hzo hzs hzb hoy ho5 hob5 hzw
            go_wp2_with (first
              | (at_builtin; rw [← HW6.out]; refine wpList_append_lies _ rfl (.tmp 114) (.tmp 116) 38 rfl w2.heap.size 48 iB _ 7 88 Try.underlying38 HK.out HY0.out HY1.out HY2.out rfl (by decide) (.slice a3 i c3) i bcs rfl (HOV.out.alloc _) ⟨w5.heap.size, 0, none⟩ 1 1 [.slice a2 x.ins.length c2, .int .i64 x.fin.kind, .int .i64 (other x.fin.reg a b), .slice (some ⟨ga, 0, none⟩) x.fin.args.length c5, .int .i64 (other x.fin.to a b), .int .i64 x.fin.next, .int .i64 x.fin.els] rfl rfl (by have e6 : w5.heap.size = w6.heap.size := HS6.out; rw [e6]; exact new_cells _ (heap_alloc_new w6 _)) (by simp [Value.oneCell']) (by decide) (by simp only [maxLen]; omega) (by omega) (by have := HR6.out.size; simp; omega) (w5.heap.size + 1) (by simp; exact HS6.out.symm) ?_; intro g7 c7 w7 hown7 hgr7 hat7 hlt7; have HE7 : Hid (blkCs ((turnN kk a b).blk kk x) (.slice a2 x.ins.length c2) (.slice (some ⟨ga, 0, none⟩) x.fin.args.length c5) = [.slice a2 x.ins.length c2, .int .i64 x.fin.kind, .int .i64 (other x.fin.reg a b), .slice (some ⟨ga, 0, none⟩) x.fin.args.length c5, .int .i64 (other x.fin.to a b), .int .i64 x.fin.next, .int .i64 x.fin.els]) := (by unfold blkCs Turn.blk; rw [HF2.out]; dsimp only; rw [if_neg HK0.out, if_pos HK46.out]; rfl); have HNX := Lib.hid (TuO.next (ga := ga) HO.out HX.out HCS.out HI.out rfl rfl (HR6.out.alloc HR6.out.size (.cells #[.slice a2 x.ins.length c2, .int .i64 x.fin.kind, .int .i64 (other x.fin.reg a b), .slice (some ⟨ga, 0, none⟩) x.fin.args.length c5, .int .i64 (other x.fin.to a b), .int .i64 x.fin.next, .int .i64 x.fin.els] 48)) (fun q q1 q2 => (heap_alloc_old _ _ (Nat.lt_of_lt_of_le q1 HIZ.out)).trans (HIY.out q q1 q2)) (by rw [World.heap_size_alloc]; exact Nat.le_succ_of_le HIZ.out) ⟨_, _, by unfold Turn.blk; rw [HF2.out]; exact (HO6.out.alloc _), rfl⟩ (by rw [HE7.out]; exact hown7) hgr7 (hat7.imp id fun e => by rw [World.heap_size_alloc, ← HS6.out]; exact e)); have hx7 := (hgr7.block w2.heap.size (by have := HR6.out.size; simp; omega) (fun e => HCS.out.2.2 _ e.symm rfl)).trans ((heap_alloc_old _ _ (by have := HR6.out.size; omega)).trans ((HR6.out.block w2.heap.size hobl).trans HO.out.blk)); have m3 := cell_of_row w7 _ 3 _ _ _ hx7; simp only [List.getElem?_toArray, List.getElem?_cons_zero, List.getElem?_cons_succ] at m3; have m3f : w7.frozen? ⟨w2.heap.size, 3, none⟩ = false := frozen_of_row w7 _ _ _ _ hx7; have ml7 : w2.heap.size < w7.heap.size := (Array.getElem?_eq_some_iff.1 hx7).1; clear hown7 hgr7 hat7 hlt7 hx7)
              | fail)
            go_roundg (p.blocks.length - (i + 1))
            case measure => omega
            case rel => exact ⟨i + 1, _, by omega, rfl, by go_num, HNX.out⟩
          have HK4 := Lib.hid hk4
          have f4 : (x.fin.kind == 4) = false := beq_eq_false_iff_ne.2 hk4
          by_cases hk6 : x.fin.kind = 6
          · have HK46 : Hid (x.fin.kind = 4 ∨ x.fin.kind = 6) := .inr hk6
            have f6 : (x.fin.kind == 6) = true := by rw [hk6]; rfl
            clear hk0 hk4 hk6
            go_wp2_with fail
            with_reducible refine (other_any _ a b _).mono ?_
            rintro e w4 ⟨rfl, rfl⟩
            go_wp2_with fail
            with_reducible refine (other_any _ a b _).mono ?_
            rintro e w4 ⟨rfl, rfl⟩
            go_wp2_with fail
            obtain ⟨wz, hwz⟩ : ∃ wz, wz = ((wr.setCell ⟨wo.heap.size, 2, none⟩ (.int .i64 (other x.fin.reg a b))).setCell ⟨wo.heap.size, 4, none⟩ (.int .i64 (other x.fin.to a b))) := ⟨_, rfl⟩
            have hz0 : wz.heap[wo.heap.size]? = some (.cells #[.slice a2 x.ins.length c2, .int .i64 x.fin.kind, .int .i64 (other x.fin.reg a b), .slice aa x.fin.args.length ca, .int .i64 (other x.fin.to a b), .int .i64 x.fin.next, .int .i64 x.fin.els] 48 (0, 0)) := by
              rw [hwz]
              exact heap_setCell_same _ _ 4 _ _ _ (heap_setCell_same _ _ 2 _ _ _ HXB.out)
            have hzo : ∀ q, q ≠ wo.heap.size → wz.heap[q]? = wr.heap[q]? := fun q hq => by
              rw [hwz]
              rw [heap_setCell_other _ _ _ _ hq, heap_setCell_other _ _ _ _ hq]
            have hzs : wz.heap.size = wr.heap.size := by rw [hwz]; simp [World.setCell]
            have hzb : Below wo.heap.size wo wz := by
              rw [hwz]
              exact (HB.out.setCell (p := ⟨wo.heap.size, 2, none⟩) (Nat.le_refl _) _).setCell (p := ⟨wo.heap.size, 4, none⟩) (Nat.le_refl _) _
            obtain ⟨wy, BY⟩ := boxed wz #[.int .i64 x.fin.kind, .int .i64 x.fin.reg, .slice aa x.fin.args.length ca, .int .i64 x.fin.to, .int .i64 x.fin.next, .int .i64 x.fin.els] 45
            rw [← hwz, ← BY.eq]
            have hoy : Below wo.heap.size wo wy := hzb.trans (BY.below.mono (by have := hzb.size; omega))
            have h2y := HBW0.out.trans ((HO.out.below.trans (hoy.mono HO.out.below.size)).mono HBW0.out.size)
            with_reducible refine (others_any x.fin.args aa ca a b wy (HSA.out.below h2y (Nat.le_refl _)) (HFEW.out.ins x (List.mem_of_getElem? HX.out)).2.1).mono ?_
            rintro e w5 ⟨ga, c5, rfl, hown5, hb5⟩
            have hsy := BY.size
            have hxb5 := (hb5.block wo.heap.size (by omega)).trans ((BY.below.block _ (by omega)).trans hz0)
            have ho5 : Below wo.heap.size wo w5 := hoy.trans (hb5.mono hoy.size)
            have hob5 := (ho5.block w2.heap.size (Array.getElem?_eq_some_iff.1 HO.out.blk).1).trans HO.out.blk
            have hobl : w2.heap.size < wo.heap.size := (Array.getElem?_eq_some_iff.1 HO.out.blk).1
            have z0 := cell_of_row w5 _ 0 _ _ _ hxb5
            have z1 := cell_of_row w5 _ 1 _ _ _ hxb5
            have z2 := cell_of_row w5 _ 2 _ _ _ hxb5
            have z3 := cell_of_row w5 _ 3 _ _ _ hxb5
            have z4 := cell_of_row w5 _ 4 _ _ _ hxb5
            have z5 := cell_of_row w5 _ 5 _ _ _ hxb5
            have z6 := cell_of_row w5 _ 6 _ _ _ hxb5
            have u3 := cell_of_row w5 _ 3 _ _ _ hob5
            simp only [List.getElem?_toArray, List.getElem?_cons_zero, List.getElem?_cons_succ] at z0 z1 z2 z3 z4 z5 z6 u3
            have z3f : w5.frozen? ⟨wo.heap.size, 3, none⟩ = false := frozen_of_row w5 _ _ _ _ hxb5
            have hxl5 : wo.heap.size < w5.heap.size := (Array.getElem?_eq_some_iff.1 hxb5).1
            have hol5 : w2.heap.size < w5.heap.size := (Array.getElem?_eq_some_iff.1 hob5).1
            have hxo : wo.heap.size ≠ w2.heap.size := by omega
            have hox : w2.heap.size ≠ wo.heap.size := by omega
            have HF2 := Lib.hid (turnF kk a b x.fin)
            obtain ⟨bcs, o1, o2, o3⟩ := HO.out.row
            have HCS : Hid (wo.ownsRow w2.heap.size 48 7 v i bcs ∧ (∀ w', Keep w00 w2 wo (fun q => q = w2.heap.size ∨ v.ownBlock = some q) w' → BCs w' bcs ((p.blocks.take i).map ((turnN kk a b).blk kk))) ∧ ∀ q, v.ownBlock = some q → q ≠ w2.heap.size) := ⟨o1, o2, o3⟩
            obtain ⟨w6, hw6⟩ : ∃ w6, w6 = w5.setCell ⟨wo.heap.size, 3, none⟩ (.slice (some ⟨ga, 0, none⟩) x.fin.args.length c5) := ⟨_, rfl⟩
            have ho6 : Below wo.heap.size wo w6 := by rw [hw6]; exact ho5.setCell (p := ⟨wo.heap.size, 3, none⟩) (Nat.le_refl _) _
            have HR6 := Lib.hid ho6
            have HS6 : Hid (w5.heap.size = w6.heap.size) := by rw [hw6]; simp [World.setCell, Hid]
            have HOV : Hid (w6.ownsRow w2.heap.size 48 7 v i bcs) := own_same o1 fun q e => ho6.block q (o1.lt q e).2
            have hzw := hzb.size
            have HO6 : Hid (w6.ownsRow wo.heap.size 3 1 (.slice (some ⟨ga, 0, none⟩) x.fin.args.length c5) x.fin.args.length (ints (x.fin.args.map fun r => other r a b))) := by
              rw [hw6]
              exact own_set_ne (own_lo hown5 (by omega)) (fun q e => by have e2 : ga = q := (by simpa [Value.ownBlock] using e); have := (hown5.lt ga rfl).1; omega) _
            have HIY : Hid (∀ q, q < wr.heap.size → q ≠ wo.heap.size → w6.heap[q]? = wr.heap[q]?) := fun q hq hn => by
              rw [hw6]
              exact (heap_setCell_other _ _ _ _ hn).trans ((hb5.block q (by omega)).trans ((BY.below.block q (by omega)).trans (hzo q hn)))
            have HIZ : Hid (wr.heap.size ≤ w6.heap.size) := by have := HS6.out; have := hb5.size; exact (by omega : wr.heap.size ≤ w6.heap.size)
            obtain ⟨a3, c3, hv⟩ := own_slice o1
            subst hv
            have HW6 := Lib.hid hw6
            have HNB := HFEW.out.blocks
            clear BY h2y hown5 hsy hxb5 o1 o2 o3 hw6 ho6 hb5 hwz hz0 hzo hzs hzb hoy ho5 hob5 hzw
            go_wp2_with (first
              | (at_builtin; rw [← HW6.out]; refine wpList_append_lies _ rfl (.tmp 114) (.tmp 116) 38 rfl w2.heap.size 48 iB _ 7 88 Try.underlying38 HK.out HY0.out HY1.out HY2.out rfl (by decide) (.slice a3 i c3) i bcs rfl (HOV.out.alloc _) ⟨w5.heap.size, 0, none⟩ 1 1 [.slice a2 x.ins.length c2, .int .i64 x.fin.kind, .int .i64 (other x.fin.reg a b), .slice (some ⟨ga, 0, none⟩) x.fin.args.length c5, .int .i64 (other x.fin.to a b), .int .i64 x.fin.next, .int .i64 x.fin.els] rfl rfl (by have e6 : w5.heap.size = w6.heap.size := HS6.out; rw [e6]; exact new_cells _ (heap_alloc_new w6 _)) (by simp [Value.oneCell']) (by decide) (by simp only [maxLen]; omega) (by omega) (by have := HR6.out.size; simp; omega) (w5.heap.size + 1) (by simp; exact HS6.out.symm) ?_; intro g7 c7 w7 hown7 hgr7 hat7 hlt7; have HE7 : Hid (blkCs ((turnN kk a b).blk kk x) (.slice a2 x.ins.length c2) (.slice (some ⟨ga, 0, none⟩) x.fin.args.length c5) = [.slice a2 x.ins.length c2, .int .i64 x.fin.kind, .int .i64 (other x.fin.reg a b), .slice (some ⟨ga, 0, none⟩) x.fin.args.length c5, .int .i64 (other x.fin.to a b), .int .i64 x.fin.next, .int .i64 x.fin.els]) := (by unfold blkCs Turn.blk; rw [HF2.out]; dsimp only; rw [if_neg HK0.out, if_pos HK46.out]; rfl); have HNX := Lib.hid (TuO.next (ga := ga) HO.out HX.out HCS.out HI.out rfl rfl (HR6.out.alloc HR6.out.size (.cells #[.slice a2 x.ins.length c2, .int .i64 x.fin.kind, .int .i64 (other x.fin.reg a b), .slice (some ⟨ga, 0, none⟩) x.fin.args.length c5, .int .i64 (other x.fin.to a b), .int .i64 x.fin.next, .int .i64 x.fin.els] 48)) (fun q q1 q2 => (heap_alloc_old _ _ (Nat.lt_of_lt_of_le q1 HIZ.out)).trans (HIY.out q q1 q2)) (by rw [World.heap_size_alloc]; exact Nat.le_succ_of_le HIZ.out) ⟨_, _, by unfold Turn.blk; rw [HF2.out]; exact (HO6.out.alloc _), rfl⟩ (by rw [HE7.out]; exact hown7) hgr7 (hat7.imp id fun e => by rw [World.heap_size_alloc, ← HS6.out]; exact e)); have hx7 := (hgr7.block w2.heap.size (by have := HR6.out.size; simp; omega) (fun e => HCS.out.2.2 _ e.symm rfl)).trans ((heap_alloc_old _ _ (by have := HR6.out.size; omega)).trans ((HR6.out.block w2.heap.size hobl).trans HO.out.blk)); have m3 := cell_of_row w7 _ 3 _ _ _ hx7; simp only [List.getElem?_toArray, List.getElem?_cons_zero, List.getElem?_cons_succ] at m3; have m3f : w7.frozen? ⟨w2.heap.size, 3, none⟩ = false := frozen_of_row w7 _ _ _ _ hx7; have ml7 : w2.heap.size < w7.heap.size := (Array.getElem?_eq_some_iff.1 hx7).1; clear hown7 hgr7 hat7 hlt7 hx7)
              | fail)
            go_roundg (p.blocks.length - (i + 1))
            case measure => omega
            case rel => exact ⟨i + 1, _, by omega, rfl, by go_num, HNX.out⟩
          · have HK6 := Lib.hid hk6
            have f6 : (x.fin.kind == 6) = false := beq_eq_false_iff_ne.2 hk6
            clear hk0 hk4 hk6
            go_wp2_with fail
            with_reducible refine (other_any _ a b _).mono ?_
            rintro e w4 ⟨rfl, rfl⟩
            go_wp2_with fail
            obtain ⟨wz, hwz⟩ : ∃ wz, wz = (wr.setCell ⟨wo.heap.size, 2, none⟩ (.int .i64 (other x.fin.reg a b))) := ⟨_, rfl⟩
            have hz0 : wz.heap[wo.heap.size]? = some (.cells #[.slice a2 x.ins.length c2, .int .i64 x.fin.kind, .int .i64 (other x.fin.reg a b), .slice aa x.fin.args.length ca, .int .i64 x.fin.to, .int .i64 x.fin.next, .int .i64 x.fin.els] 48 (0, 0)) := by
              rw [hwz]
              exact heap_setCell_same _ _ 2 _ _ _ HXB.out
            have hzo : ∀ q, q ≠ wo.heap.size → wz.heap[q]? = wr.heap[q]? := fun q hq => by
              rw [hwz]
              exact heap_setCell_other _ _ _ _ hq
            have hzs : wz.heap.size = wr.heap.size := by rw [hwz]; simp [World.setCell]
            have hzb : Below wo.heap.size wo wz := by
              rw [hwz]
              exact HB.out.setCell (p := ⟨wo.heap.size, 2, none⟩) (Nat.le_refl _) _
            obtain ⟨wy, BY⟩ := boxed wz #[.int .i64 x.fin.kind, .int .i64 x.fin.reg, .slice aa x.fin.args.length ca, .int .i64 x.fin.to, .int .i64 x.fin.next, .int .i64 x.fin.els] 45
            rw [← hwz, ← BY.eq]
            have hoy : Below wo.heap.size wo wy := hzb.trans (BY.below.mono (by have := hzb.size; omega))
            have h2y := HBW0.out.trans ((HO.out.below.trans (hoy.mono HO.out.below.size)).mono HBW0.out.size)
            with_reducible refine (others_any x.fin.args aa ca a b wy (HSA.out.below h2y (Nat.le_refl _)) (HFEW.out.ins x (List.mem_of_getElem? HX.out)).2.1).mono ?_
            rintro e w5 ⟨ga, c5, rfl, hown5, hb5⟩
            have hsy := BY.size
            have hxb5 := (hb5.block wo.heap.size (by omega)).trans ((BY.below.block _ (by omega)).trans hz0)
            have ho5 : Below wo.heap.size wo w5 := hoy.trans (hb5.mono hoy.size)
            have hob5 := (ho5.block w2.heap.size (Array.getElem?_eq_some_iff.1 HO.out.blk).1).trans HO.out.blk
            have hobl : w2.heap.size < wo.heap.size := (Array.getElem?_eq_some_iff.1 HO.out.blk).1
            have z0 := cell_of_row w5 _ 0 _ _ _ hxb5
            have z1 := cell_of_row w5 _ 1 _ _ _ hxb5
            have z2 := cell_of_row w5 _ 2 _ _ _ hxb5
            have z3 := cell_of_row w5 _ 3 _ _ _ hxb5
            have z4 := cell_of_row w5 _ 4 _ _ _ hxb5
            have z5 := cell_of_row w5 _ 5 _ _ _ hxb5
            have z6 := cell_of_row w5 _ 6 _ _ _ hxb5
            have u3 := cell_of_row w5 _ 3 _ _ _ hob5
            simp only [List.getElem?_toArray, List.getElem?_cons_zero, List.getElem?_cons_succ] at z0 z1 z2 z3 z4 z5 z6 u3
            have z3f : w5.frozen? ⟨wo.heap.size, 3, none⟩ = false := frozen_of_row w5 _ _ _ _ hxb5
            have hxl5 : wo.heap.size < w5.heap.size := (Array.getElem?_eq_some_iff.1 hxb5).1
            have hol5 : w2.heap.size < w5.heap.size := (Array.getElem?_eq_some_iff.1 hob5).1
            have hxo : wo.heap.size ≠ w2.heap.size := by omega
            have hox : w2.heap.size ≠ wo.heap.size := by omega
            have HF2 := Lib.hid (turnF kk a b x.fin)
            obtain ⟨bcs, o1, o2, o3⟩ := HO.out.row
            have HCS : Hid (wo.ownsRow w2.heap.size 48 7 v i bcs ∧ (∀ w', Keep w00 w2 wo (fun q => q = w2.heap.size ∨ v.ownBlock = some q) w' → BCs w' bcs ((p.blocks.take i).map ((turnN kk a b).blk kk))) ∧ ∀ q, v.ownBlock = some q → q ≠ w2.heap.size) := ⟨o1, o2, o3⟩
            obtain ⟨w6, hw6⟩ : ∃ w6, w6 = w5.setCell ⟨wo.heap.size, 3, none⟩ (.slice (some ⟨ga, 0, none⟩) x.fin.args.length c5) := ⟨_, rfl⟩
            have ho6 : Below wo.heap.size wo w6 := by rw [hw6]; exact ho5.setCell (p := ⟨wo.heap.size, 3, none⟩) (Nat.le_refl _) _
            have HR6 := Lib.hid ho6
            have HS6 : Hid (w5.heap.size = w6.heap.size) := by rw [hw6]; simp [World.setCell, Hid]
            have HOV : Hid (w6.ownsRow w2.heap.size 48 7 v i bcs) := own_same o1 fun q e => ho6.block q (o1.lt q e).2
            have hzw := hzb.size
            have HO6 : Hid (w6.ownsRow wo.heap.size 3 1 (.slice (some ⟨ga, 0, none⟩) x.fin.args.length c5) x.fin.args.length (ints (x.fin.args.map fun r => other r a b))) := by
              rw [hw6]
              exact own_set_ne (own_lo hown5 (by omega)) (fun q e => by have e2 : ga = q := (by simpa [Value.ownBlock] using e); have := (hown5.lt ga rfl).1; omega) _
            have HIY : Hid (∀ q, q < wr.heap.size → q ≠ wo.heap.size → w6.heap[q]? = wr.heap[q]?) := fun q hq hn => by
              rw [hw6]
              exact (heap_setCell_other _ _ _ _ hn).trans ((hb5.block q (by omega)).trans ((BY.below.block q (by omega)).trans (hzo q hn)))
            have HIZ : Hid (wr.heap.size ≤ w6.heap.size) := by have := HS6.out; have := hb5.size; exact (by omega : wr.heap.size ≤ w6.heap.size)
            obtain ⟨a3, c3, hv⟩ := own_slice o1
            subst hv
            have HW6 := Lib.hid hw6
            have HNB := HFEW.out.blocks
            clear BY h2y hown5 hsy hxb5 o1 o2 o3 hw6 ho6 hb5 hwz hz0 hzo hzs hzb hoy ho5 hob5 hzw
            go_wp2_with (first
              | (at_builtin; rw [← HW6.out]; refine wpList_append_lies _ rfl (.tmp 114) (.tmp 116) 38 rfl w2.heap.size 48 iB _ 7 88 Try.underlying38 HK.out HY0.out HY1.out HY2.out rfl (by decide) (.slice a3 i c3) i bcs rfl (HOV.out.alloc _) ⟨w5.heap.size, 0, none⟩ 1 1 [.slice a2 x.ins.length c2, .int .i64 x.fin.kind, .int .i64 (other x.fin.reg a b), .slice (some ⟨ga, 0, none⟩) x.fin.args.length c5, .int .i64 x.fin.to, .int .i64 x.fin.next, .int .i64 x.fin.els] rfl rfl (by have e6 : w5.heap.size = w6.heap.size := HS6.out; rw [e6]; exact new_cells _ (heap_alloc_new w6 _)) (by simp [Value.oneCell']) (by decide) (by simp only [maxLen]; omega) (by omega) (by have := HR6.out.size; simp; omega) (w5.heap.size + 1) (by simp; exact HS6.out.symm) ?_; intro g7 c7 w7 hown7 hgr7 hat7 hlt7; have HE7 : Hid (blkCs ((turnN kk a b).blk kk x) (.slice a2 x.ins.length c2) (.slice (some ⟨ga, 0, none⟩) x.fin.args.length c5) = [.slice a2 x.ins.length c2, .int .i64 x.fin.kind, .int .i64 (other x.fin.reg a b), .slice (some ⟨ga, 0, none⟩) x.fin.args.length c5, .int .i64 x.fin.to, .int .i64 x.fin.next, .int .i64 x.fin.els]) := (by unfold blkCs Turn.blk; rw [HF2.out]; dsimp only; rw [if_neg HK0.out, if_neg (fun h => by have h4 := HK4.out; have h6 := HK6.out; omega)]; rfl); have HNX := Lib.hid (TuO.next (ga := ga) HO.out HX.out HCS.out HI.out rfl rfl (HR6.out.alloc HR6.out.size (.cells #[.slice a2 x.ins.length c2, .int .i64 x.fin.kind, .int .i64 (other x.fin.reg a b), .slice (some ⟨ga, 0, none⟩) x.fin.args.length c5, .int .i64 x.fin.to, .int .i64 x.fin.next, .int .i64 x.fin.els] 48)) (fun q q1 q2 => (heap_alloc_old _ _ (Nat.lt_of_lt_of_le q1 HIZ.out)).trans (HIY.out q q1 q2)) (by rw [World.heap_size_alloc]; exact Nat.le_succ_of_le HIZ.out) ⟨_, _, by unfold Turn.blk; rw [HF2.out]; exact (HO6.out.alloc _), rfl⟩ (by rw [HE7.out]; exact hown7) hgr7 (hat7.imp id fun e => by rw [World.heap_size_alloc, ← HS6.out]; exact e)); have hx7 := (hgr7.block w2.heap.size (by have := HR6.out.size; simp; omega) (fun e => HCS.out.2.2 _ e.symm rfl)).trans ((heap_alloc_old _ _ (by have := HR6.out.size; omega)).trans ((HR6.out.block w2.heap.size hobl).trans HO.out.blk)); have m3 := cell_of_row w7 _ 3 _ _ _ hx7; simp only [List.getElem?_toArray, List.getElem?_cons_zero, List.getElem?_cons_succ] at m3; have m3f : w7.frozen? ⟨w2.heap.size, 3, none⟩ = false := frozen_of_row w7 _ _ _ _ hx7; have ml7 : w2.heap.size < w7.heap.size := (Array.getElem?_eq_some_iff.1 hx7).1; clear hown7 hgr7 hat7 hlt7 hx7)
              | fail)
            go_roundg (p.blocks.length - (i + 1))
            case measure => omega
            case rel => exact ⟨i + 1, _, by omega, rfl, by go_num, HNX.out⟩
    · obtain rfl : i = p.blocks.length := by omega
      obtain ⟨bcs, o1, o2, o3⟩ := HO.out.row
      obtain ⟨a3, c3, hv⟩ := own_slice o1
      subst hv
      have hrb := (HO.out.below.block (w.heap.size + 1) (by have := HSZ.out; omega)).trans HRB.out
      have hob := HO.out.blk
      have u0 := cell_of_row wr _ 0 _ _ _ hob
      have u1 := cell_of_row wr _ 1 _ _ _ hob
      have u2 := cell_of_row wr _ 2 _ _ _ hob
      have u3 := cell_of_row wr _ 3 _ _ _ hob
      have t0 := cell_of_row wr _ 0 _ _ _ hrb
      have t1 := cell_of_row wr _ 1 _ _ _ hrb
      have t2 := cell_of_row wr _ 2 _ _ _ hrb
      have t3 := cell_of_row wr _ 3 _ _ _ hrb
      simp only [List.getElem?_toArray, List.getElem?_cons_zero, List.getElem?_cons_succ] at u0 u1 u2 u3 t0 t1 t2 t3
      have t0f : wr.frozen? ⟨w.heap.size + 1, 0, none⟩ = false := frozen_of_row wr _ _ _ _ hrb
      have t1f : wr.frozen? ⟨w.heap.size + 1, 1, none⟩ = false := frozen_of_row wr _ _ _ _ hrb
      have t2f : wr.frozen? ⟨w.heap.size + 1, 2, none⟩ = false := frozen_of_row wr _ _ _ _ hrb
      have t3f : wr.frozen? ⟨w.heap.size + 1, 3, none⟩ = false := frozen_of_row wr _ _ _ _ hrb
      have hrl : w.heap.size + 1 < wr.heap.size := (Array.getElem?_eq_some_iff.1 hrb).1
      have HRBR := Lib.hid hrb
      have HO1 := Lib.hid o1
      have HO2 : Hid (∀ w', Keep w00 w2 wr (fun q => q = w2.heap.size ∨ (Value.slice a3 p.blocks.length c3).ownBlock = some q) w' → BCs w' bcs ((p.blocks.take p.blocks.length).map ((turnN kk a b).blk kk))) := o2
      have h0r := HBW.out.trans (HO.out.below.mono HBW.out.size)
      have H0R := Lib.hid h0r
      clear o1 o2 o3 hrb hob h0r
      go_wp2_with fail
      refine bodyPost_ret (res1 rfl _ _ (w.heap.size + 1) 40 _ (0, 0) rfl (set4 HRBR.out) procD procSize) rfl ?_
      obtain ⟨wf, hwf⟩ : ∃ wf, wf = (((wr.setCell ⟨w.heap.size + 1, 0, none⟩ (.int .i64 p.params)).setCell ⟨w.heap.size + 1, 1, none⟩ (.int .i64 p.holds)).setCell ⟨w.heap.size + 1, 2, none⟩ (.int .i64 p.regs)).setCell ⟨w.heap.size + 1, 3, none⟩ (.slice a3 p.blocks.length c3) := ⟨_, rfl⟩
      rw [← hwf]
      have hfo : ∀ q, q ≠ w.heap.size + 1 → wf.heap[q]? = wr.heap[q]? := fun q hq => by rw [hwf, heap_setCell_other _ _ _ _ hq, heap_setCell_other _ _ _ _ hq, heap_setCell_other _ _ _ _ hq, heap_setCell_other _ _ _ _ hq]
      have hfs : wf.heap.size = wr.heap.size := by rw [hwf]; simp [World.setCell]
      have hle : w.heap.size ≤ w.heap.size + 1 := Nat.le_succ _
      have hfb : Below w.heap.size w wf := by
        rw [hwf]
        exact (((H0R.out.setCell (p := ⟨w.heap.size + 1, 0, none⟩) hle _).setCell (p := ⟨w.heap.size + 1, 1, none⟩) hle _).setCell (p := ⟨w.heap.size + 1, 2, none⟩) hle _).setCell (p := ⟨w.heap.size + 1, 3, none⟩) hle _
      have hs2 := HSZ.out.2
      refine ⟨_, rfl, ⟨_, _, _, rfl⟩, hfb, fun w9 h91 h92 h93 => ?_⟩
      have h9r : ∀ q, w2.heap.size ≤ q → q < wr.heap.size → w9.heap[q]? = wr.heap[q]? := fun q q1 q2 => (h93 q (by omega) (by rw [hfs]; exact q2)).trans (hfo q (by omega))
      have hbc := HO2.out w9 ⟨h91, by rw [← hfs]; exact h92, fun q q1 q2 _ => h9r q q2 q1⟩
      rw [List.take_length] at hbc
      have hof : w9.ownsRow w2.heap.size 48 7 (.slice a3 p.blocks.length c3) p.blocks.length bcs := own_same HO1.out fun q e => h9r q (HO1.out.lt q e).1 (HO1.out.lt q e).2
      have hl : (p.blocks.map ((turnN kk a b).blk kk)).length = p.blocks.length := List.length_map ..
      rcases own_shape hof with ⟨e1, e2, _⟩ | ⟨g, cap, e1, _⟩
      · rw [e1]
        refine ⟨none, 0, ?_, .inl ?_⟩
        · show _ = Value.slice none (p.blocks.map ((turnN kk a b).blk kk)).length 0
          rw [hl, e2]
        · exact List.length_eq_zero_iff.1 (hl.trans e2)
      · rw [e1] at hof ⊢
        have := BCs.row hof hbc hl.symm
        rw [hl] at this
        exact this
end Vm
end Go.Proofs.Ytalfnaielhbocaa
namespace Go.Proofs.Ytalfnaielhbocaa
open Go.RowKit
set_option linter.unusedVariables false
set_option linter.unusedSimpArgs false
set_option maxRecDepth 100000
namespace Vm
theorem tuFew {c : Code} {p : Prc} (hc : chk c = 0) (hok : CodeOk c) (hp : p ∈ c) : TuFew p := by
  refine ⟨blocks_fewP c 0 (chk_zero.1 hc).1 p hp, fun x hx => ⟨hok.few p hp x hx, ?_, fun y hy => ?_⟩⟩
  · have := (prcB_facts (hok.all p hp)).2.2.2.2.2.2 x hx
    have := (finB_facts this.2).2.2.2.2.1
    omega
  · have h := ((prcB_facts (hok.all p hp)).2.2.2.2.2.2 x hx).1 y hy
    unfold insB at h
    split at h
    · simp only [Bool.and_eq_true, decide_eq_true_eq] at h; omega
    · split at h
      · simp only [Bool.and_eq_true, decide_eq_true_eq] at h; omega
      · split at h
        · simp only [Bool.and_eq_true, decide_eq_true_eq] at h; omega
        · split at h
          · simp only [Bool.and_eq_true] at h
            obtain ⟨⟨⟨⟨_, h3⟩, _⟩, _⟩, _⟩ := h
            cases hq : c[y.num.toNat]? with
            | none => rw [hq] at h3; cases h3
            | some q =>
              rw [hq] at h3
              have h4 := of_decide_eq_true h3
              have := (prcB_facts (hok.all q (List.mem_of_getElem? hq))).2.2.2.1
              omega
          · split at h
            · simp only [Bool.and_eq_true, decide_eq_true_eq] at h; omega
            · split at h
              · cases h
              · simp only [Bool.and_eq_true, decide_eq_true_eq] at h
                have := arity_le y.op
                omega
theorem turnedP_fit {p : Prc} {k : Nat} {a b : Int} (h : PrcFit p) : PrcFit (turnedP p k a b) := by
  refine ⟨by show (p.blocks.map _).length ≤ _; rw [List.length_map]; exact h.blocks, fun x hx => ?_⟩
  obtain ⟨y, hy, rfl⟩ := List.mem_map.1 hx
  have hf := h.each y hy
  refine ⟨by show (y.ins.map _).length ≤ _; rw [List.length_map]; exact hf.ins, by show (y.fin.args.map _).length ≤ _; rw [List.length_map]; exact hf.args, fun z hz => ?_⟩
  obtain ⟨u, hu, rfl⟩ := List.mem_map.1 hz
  have := hf.each u hu
  exact ⟨by show (u.args.map _).length ≤ _; rw [List.length_map]; exact this.1, this.2⟩
set_option maxHeartbeats 16000000 in
theorem vnames_walk (al : Option Addr) (cl : Nat) (c : Code) (l : List UInt8) (k a b : Int) (W : World) (HI : LawIn W al cl c) :
    Calls Try.prog 5 #[.agg #[.slice al c.length cl], .string ⟨l.toArray⟩, .agg #[.int .i64 k, .int .i64 a, .int .i64 b]] W fun e w' => e = .returned (.bool true) ∧ Below W.heap.size W w' := by
  have HI := Lib.hid HI
  obtain ⟨w0, B0⟩ := boxed W #[.slice al c.length cl] 24
  obtain ⟨w1, B1⟩ := boxed w0 #[.int .i64 k, .int .i64 a, .int .i64 b] 37
  have HB0 := Lib.hid B0
  have HB1 := Lib.hid B1
  have hs0 := B0.size
  have hs1 := B1.size
  have HBW := Lib.hid (B0.below.trans (B1.below.mono B0.below.size))
  have HCB : Hid (w1.heap[W.heap.size]? = some (.cells #[.slice al c.length cl] 24 (0, 0))) := (B1.below.block _ (by omega)).trans B0.blk
  have HPK : Hid (w1.heap[W.heap.size + 1]? = some (.cells #[.int .i64 k, .int .i64 a, .int .i64 b] 37 (0, 0))) := by have := B1.blk; rw [hs0] at this; exact this
  clear B0 B1
  go_enter Try.func5, Try.ntmps5
  go_wp2_with fail
  rw [← HB0.out.eq, ← HB1.out.eq]
  with_reducible refine (fixed_any w1).mono ?_
  rintro e w2 ⟨rfl, hb2⟩
  have HB2 := Lib.hid (HBW.out.trans (hb2.mono HBW.out.size))
  have hcb2 := (hb2.block _ (by omega)).trans HCB.out
  have hpk2 := (hb2.block _ (by omega)).trans HPK.out
  have c0 := cell_of_row w2 W.heap.size 0 _ _ _ hcb2
  simp only [List.getElem?_toArray, List.getElem?_cons_zero] at c0
  have l0 : W.heap.size < w2.heap.size := (Array.getElem?_eq_some_iff.1 hcb2).1
  have HCB2 := Lib.hid hcb2
  have HPK2 := Lib.hid hpk2
  clear hb2 hcb2 hpk2
  go_wp2_with fail
  with_reducible refine (Check_any al cl (HI.out.at'.bel HB2.out) HI.out.len HI.out.fit).mono ?_
  rintro e w3 hpost
  obtain ⟨rfl, hb3⟩ := hpost
  have HB3 := Lib.hid (HB2.out.trans (hb3.mono HB2.out.size))
  have hcb3 := (hb3.block _ l0).trans HCB2.out
  have hpk3 := (hb3.block _ (Array.getElem?_eq_some_iff.1 HPK2.out).1).trans HPK2.out
  clear c0 l0
  have c0 := cell_of_row w3 W.heap.size 0 _ _ _ hcb3
  have k0 := cell_of_row w3 (W.heap.size + 1) 0 _ _ _ hpk3
  have k1 := cell_of_row w3 (W.heap.size + 1) 1 _ _ _ hpk3
  have k2 := cell_of_row w3 (W.heap.size + 1) 2 _ _ _ hpk3
  simp only [List.getElem?_toArray, List.getElem?_cons_zero, List.getElem?_cons_succ] at c0 k0 k1 k2
  have l0 : W.heap.size < w3.heap.size := (Array.getElem?_eq_some_iff.1 hcb3).1
  have l1 : W.heap.size + 1 < w3.heap.size := (Array.getElem?_eq_some_iff.1 hpk3).1
  have HCB3 := Lib.hid hcb3
  have HPK3 := Lib.hid hpk3
  clear hb3 hcb3 hpk3
  by_cases hchk : chk c = 0
  case neg =>
    have g0 : (chk c != 0) = true := by rw [bne_iff_ne]; exact hchk
    go_wp2_with fail
    with_reducible refine (fixed_any _).mono ?_
    rintro e w4 ⟨rfl, hb4⟩
    have HB4 := Lib.hid (HB3.out.trans (hb4.mono HB3.out.size))
    clear hb4
    go_wp2_with fail
    go_ret
    exact ⟨rfl, HB4.out⟩
  rw [hchk]
  by_cases h1 : k < 0
  · have g1 : decide (k < 0) = true := decide_eq_true h1
    go_wp2_with fail
    go_ret
    exact ⟨rfl, HB3.out⟩
  have g1 : decide (k < 0) = false := decide_eq_false h1
  obtain ⟨n, rfl⟩ : ∃ n : Nat, k = n := ⟨k.toNat, by omega⟩
  by_cases h2 : c.length ≤ n
  · have g2 : decide ((c.length : Int) ≤ n) = true := decide_eq_true (by omega)
    have g2' : decide (c.length ≤ n) = true := decide_eq_true h2
    go_wp2_with fail
    go_ret
    exact ⟨rfl, HB3.out⟩
  have g2 : decide ((c.length : Int) ≤ n) = false := decide_eq_false (by omega)
  have g2' : decide (c.length ≤ n) = false := decide_eq_false h2
  obtain ⟨p, hp⟩ : ∃ p, c[n]? = some p := ⟨_, List.getElem?_eq_getElem (by omega)⟩
  have hnl := (List.getElem?_eq_some_iff.1 hp).1
  have hcn : c ≠ [] := fun e => by rw [e] at hp; simp at hp
  have hpm := List.mem_of_getElem? hp
  have hok := codeOk hchk HI.out.fit
  have hclen := (chk_zero.1 hchk).2.1
  have HTF := Lib.hid (tuFew hchk hok hpm)
  have HOK := Lib.hid hok
  have HK0 := Lib.hid hchk
  have HP := Lib.hid hp
  have hcode3 := HI.out.at'.bel HB3.out
  obtain ⟨bq, off, cs, rfl, hPC, hsrc, hone⟩ := PCs.of hcode3 hcn
  obtain ⟨_, bc, oc, ebc, hbc, hPC1⟩ := hcode3.at HP.out
  obtain ⟨rfl, rfl⟩ : bq = bc ∧ off = oc := by simpa using ebc
  obtain ⟨n0, n1, n2, bv', n3, hbr'⟩ := hPC1
  obtain ⟨ab, cb, hbv'⟩ := hbr'.len
  subst hbv'
  have g3 : (0 : Int) ≤ n := by omega
  have g4 : (n : Int) < c.length := by omega
  have hcs := hPC.1
  obtain ⟨bv, e0, e1, e2, e3, hbr⟩ := hPC.2 n p HP.out
  have hbve : bv = .slice ab p.blocks.length cb := by
    have h := hsrc (n * 4 + 3) bv e3
    rw [addr_add, ← Nat.add_assoc, n3] at h
    exact (Option.some.inj h).symm
  subst hbve
  have HBR := Lib.hid hbr
  have HPC := Lib.hid hPC
  have HONE := Lib.hid hone
  have HCS := Lib.hid hcs
  have HE : Hid (cs[n * 4]? = some (.int .i64 p.params) ∧ cs[n * 4 + 1]? = some (.int .i64 p.holds) ∧ cs[n * 4 + 2]? = some (.int .i64 p.regs) ∧ cs[n * 4 + 3]? = some (.slice ab p.blocks.length cb)) := ⟨e0, e1, e2, e3⟩
  have HBC := Lib.hid hbc
  have HSRC := Lib.hid hsrc
  clear hbr' hPC hone hbr hsrc hcode3 e0 e1 e2 e3 hcs hok hpm hbc hp
  obtain ⟨w4, B4⟩ := boxed w3 #[.int .i64 p.params, .int .i64 p.holds, .int .i64 p.regs, .slice ab p.blocks.length cb] 40
  have HX4 := Lib.hid B4
  have hs4 := B4.size
  have HS4 : Hid (w4.heap.size = w3.heap.size + 1) := hs4
  go_wp2_with fail
  rw [← HX4.out.eq]
  have hp4 := HX4.out.blk
  have m0 := cell_of_row w4 _ 0 _ _ _ hp4
  have m1 := cell_of_row w4 _ 1 _ _ _ hp4
  have m2 := cell_of_row w4 _ 2 _ _ _ hp4
  have m3 := cell_of_row w4 _ 3 _ _ _ hp4
  simp only [List.getElem?_toArray, List.getElem?_cons_zero, List.getElem?_cons_succ] at m0 m1 m2 m3
  have hb34 := HX4.out.below
  have j0 := (cell_bel hb34 l0).trans c0
  have j1 := (cell_bel hb34 l1).trans k1
  have j2 := (cell_bel hb34 l1).trans k2
  have ml4 : w3.heap.size < w4.heap.size := by omega
  have jl0 : W.heap.size < w4.heap.size := by omega
  have jl1 : W.heap.size + 1 < w4.heap.size := by omega
  clear hs4 c0 k0 k1 k2 n0 n1 n2 n3 hb34
  go_quiet (fail)
  generalize hw5 : w4.drewN _ = w5
  have hb45 : Below w4.heap.size w4 w5 := by rw [← hw5]; exact below_drewN (Below.refl _ _) _
  have hz45 : w5.heap.size = w4.heap.size := by rw [← hw5]; rfl
  have HB5 := Lib.hid (HB3.out.trans ((HX4.out.below.trans (hb45.mono HX4.out.below.size)).mono HB3.out.size))
  have H35 := Lib.hid (HX4.out.below.trans (hb45.mono HX4.out.below.size))
  have HZ5 : Hid (w5.heap.size = w3.heap.size + 1) := hz45.trans HS4.out
  have hp5 := (hb45.block _ ml4).trans hp4
  have hcb5 := (hb45.block _ jl0).trans ((HX4.out.below.block _ l0).trans HCB3.out)
  clear m0 m1 m2 m3 j0 j1 j2 ml4 jl0 jl1 hp4 hz45 hb45 hw5
  have m0 := cell_of_row w5 _ 0 _ _ _ hp5
  have m1 := cell_of_row w5 _ 1 _ _ _ hp5
  have m2 := cell_of_row w5 _ 2 _ _ _ hp5
  have m3 := cell_of_row w5 _ 3 _ _ _ hp5
  have c0 := cell_of_row w5 _ 0 _ _ _ hcb5
  simp only [List.getElem?_toArray, List.getElem?_cons_zero, List.getElem?_cons_succ] at m0 m1 m2 m3 c0
  have ml5 : w3.heap.size < w5.heap.size := (Array.getElem?_eq_some_iff.1 hp5).1
  have cl5 : W.heap.size < w5.heap.size := (Array.getElem?_eq_some_iff.1 hcb5).1
  have HP5 := Lib.hid hp5
  have HCB5 := Lib.hid hcb5
  clear hp5 hcb5
  by_cases d1 : a < p.params
  · have g5 : decide (a < p.params) = true := decide_eq_true d1
    go_wp2_with fail
    go_ret
    exact ⟨rfl, HB5.out⟩
  have g5 : decide (a < p.params) = false := decide_eq_false d1
  by_cases d2 : b < p.params
  · have g6 : decide (b < p.params) = true := decide_eq_true d2
    go_wp2_with fail
    go_ret
    exact ⟨rfl, HB5.out⟩
  have g6 : decide (b < p.params) = false := decide_eq_false d2
  by_cases d3 : p.regs ≤ a
  · have g7 : decide (p.regs ≤ a) = true := decide_eq_true d3
    go_wp2_with fail
    go_ret
    exact ⟨rfl, HB5.out⟩
  have g7 : decide (p.regs ≤ a) = false := decide_eq_false d3
  by_cases d4 : p.regs ≤ b
  · have g8 : decide (p.regs ≤ b) = true := decide_eq_true d4
    go_wp2_with fail
    go_ret
    exact ⟨rfl, HB5.out⟩
  have g8 : decide (p.regs ≤ b) = false := decide_eq_false d4
  have HAB : Hid ((p.params ≤ a ∧ a < p.regs) ∧ p.params ≤ b ∧ b < p.regs) := ⟨⟨by omega, by omega⟩, by omega, by omega⟩
  obtain ⟨wE, BE⟩ := boxed w5 #[] 40
  have HXE := Lib.hid BE
  have HOE : Hid (wE.ownsRow w5.heap.size 40 4 (.slice (some ⟨w5.heap.size, 0, none⟩) 0 0) 0 []) := by rw [BE.eq]; exact own_empty (Nat.le_refl _)
  have HSR : Hid (∀ (j : Nat) (u : Value), cs[j]? = some u → wE.cell? ((⟨bq, off, none⟩ : Addr).add j) = some u) := fun j u hu => by
    rw [← HSRC.out j u hu, addr_add]
    exact cell_bel (H35.out.trans (BE.below.mono H35.out.size)) HBC.out
  have hsE := BE.size
  obtain ⟨i0, hi0, hz0, hz1, hz2⟩ := info_parts infoPrc
  have HJ0 := Lib.hid hi0
  have HZ0 := Lib.hid hz0
  have HZ1 := Lib.hid hz1
  have HZ2 := Lib.hid hz2
  clear BE hi0 hz0 hz1 hz2
  go_wp2_with (first
    | (at_builtin; rw [← HXE.out.eq]; refine wpList_append_lies _ rfl (.tmp 62) (.tmp 64) 22 rfl w5.heap.size 40 i0 _ 4 48 Try.underlying22 HJ0.out HZ0.out HZ1.out HZ2.out rfl (by decide) (.slice (some ⟨w5.heap.size, 0, none⟩) 0 0) 0 [] rfl HOE.out ⟨bq, off, none⟩ c.length cl cs rfl HCS.out HSR.out HONE.out (by omega) (by simp only [maxLen]; omega) (by omega) (by omega) wE.heap.size rfl ?_; intro g6 c6 w6 hown6 hgr6 hat6 hlt6; have hown6' : w6.ownsRow w5.heap.size 40 4 (.slice (some ⟨g6, 0, none⟩) c.length c6) c.length cs := (by simpa using hown6); have HO6 := Lib.hid hown6'; have HJ6 := Lib.hid ((HXE.out.below).grown hgr6 (by omega) (fun q hq => by have e : w5.heap.size = q := (by simpa [Value.ownBlock] using hq); omega)); clear hown6 hown6' hgr6 hat6)
    | fail)
  obtain ⟨w7, B7⟩ := boxed w6 #[.slice (some ⟨g6, 0, none⟩) c.length c6] 24
  rw [← B7.eq]
  have hs7 := B7.size
  have H57 := Lib.hid (HJ6.out.trans (B7.below.mono HJ6.out.size))
  have H37 := Lib.hid (H35.out.trans (H57.out.mono H35.out.size))
  have hp7 := (H57.out.block _ ml5).trans HP5.out
  have hcb7 := (H57.out.block _ cl5).trans HCB5.out
  have hd7 := B7.blk
  have HO7 : Hid (w7.ownsRow w5.heap.size 40 4 (.slice (some ⟨g6, 0, none⟩) c.length c6) c.length cs) := by rw [B7.eq]; exact HO6.out.alloc _
  have HG6 : Hid (w5.heap.size ≤ g6 ∧ g6 < w6.heap.size) := HO6.out.lt g6 rfl
  have hp50 := cell_of_row w7 _ 0 _ _ _ hp7
  have hp51 := cell_of_row w7 _ 1 _ _ _ hp7
  have hp52 := cell_of_row w7 _ 2 _ _ _ hp7
  have hp53 := cell_of_row w7 _ 3 _ _ _ hp7
  have hd70 := cell_of_row w7 _ 0 _ _ _ hd7
  simp only [List.getElem?_toArray, List.getElem?_cons_zero, List.getElem?_cons_succ] at hp50 hp51 hp52 hp53 hd70
  have HF7 : Hid (w7.cell? ⟨w6.heap.size, 0, none⟩ = some (.slice (some ⟨g6, 0, none⟩) c.length c6) ∧ w7.cell? ⟨w3.heap.size, 0, none⟩ = some (.int .i64 p.params) ∧ w7.cell? ⟨w3.heap.size, 1, none⟩ = some (.int .i64 p.holds) ∧ w7.cell? ⟨w3.heap.size, 2, none⟩ = some (.int .i64 p.regs) ∧ w7.cell? ⟨w3.heap.size, 3, none⟩ = some (.slice ab p.blocks.length cb)) := ⟨hd70, hp50, hp51, hp52, hp53⟩
  have HL7 : Hid (w6.heap.size < w7.heap.size ∧ w3.heap.size < w7.heap.size ∧ w3.heap.size < w5.heap.size ∧ W.heap.size < w7.heap.size) := ⟨by omega, (Array.getElem?_eq_some_iff.1 hp7).1, ml5, (Array.getElem?_eq_some_iff.1 hcb7).1⟩
  have HCB7 := Lib.hid hcb7
  have HD7 := Lib.hid hd7
  have HLT : Hid (n * 4 + 3 < c.length * 4) := (by omega : n * 4 + 3 < c.length * 4)
  have HWL : Hid (W.heap.size < w5.heap.size) := cl5
  clear B7 hs7 hp7 hcb7 hd7 hp50 hp51 hp52 hp53 hd70 m0 m1 m2 m3 c0 ml5 cl5
  go_region_held3 (fun w' => w'.cell? ⟨w6.heap.size, 0, none⟩ = some (.slice (some ⟨g6, 0, none⟩) c.length c6) ∧ w'.cell? ⟨w3.heap.size, 0, none⟩ = some (.int .i64 p.params) ∧ w'.cell? ⟨w3.heap.size, 1, none⟩ = some (.int .i64 p.holds) ∧ w'.cell? ⟨w3.heap.size, 2, none⟩ = some (.int .i64 p.regs) ∧ w'.cell? ⟨w3.heap.size, 3, none⟩ = some (.slice ab p.blocks.length cb))
    (first | with_reducible exact HF7.out | with_reducible exact HF8.out | with_reducible exact HF9.out _ _ _ _ | exact HF7.out)
    (first
      | (go_at_call 13; (with_reducible refine (turned_any p ab cb a b n w3 _ HBR.out H37.out.drew HTF.out).mono ?_); rintro e w8 ⟨v, rfl, ⟨a9, n9, c9, rfl⟩, hb8, hrow8⟩; have h78 : Below w7.heap.size w7 w8 := ((Below.refl w7.heap.size w7).drew).trans hb8; have H78 := Lib.hid h78; have HR8 := Lib.hid hrow8; have HF8 : Hid (w8.cell? ⟨w6.heap.size, 0, none⟩ = some (.slice (some ⟨g6, 0, none⟩) c.length c6) ∧ w8.cell? ⟨w3.heap.size, 0, none⟩ = some (.int .i64 p.params) ∧ w8.cell? ⟨w3.heap.size, 1, none⟩ = some (.int .i64 p.holds) ∧ w8.cell? ⟨w3.heap.size, 2, none⟩ = some (.int .i64 p.regs) ∧ w8.cell? ⟨w3.heap.size, 3, none⟩ = some (.slice ab p.blocks.length cb)) := ⟨(cell_bel h78 HL7.out.1).trans HF7.out.1, (cell_bel h78 HL7.out.2.1).trans HF7.out.2.1, (cell_bel h78 HL7.out.2.1).trans HF7.out.2.2.1, (cell_bel h78 HL7.out.2.1).trans HF7.out.2.2.2.1, (cell_bel h78 HL7.out.2.1).trans HF7.out.2.2.2.2⟩; have hne1 : w6.heap.size ≠ g6 := (by have := HG6.out; omega); have hne2 : w3.heap.size ≠ g6 := (by have := HG6.out; have := HL7.out.2.2.1; omega); have HF9 : Hid (∀ u0 u1 u2 u3 : Value, ((((w8.setCell ⟨g6, n * 4, none⟩ u0).setCell ⟨g6, n * 4 + 1, none⟩ u1).setCell ⟨g6, n * 4 + 2, none⟩ u2).setCell ⟨g6, n * 4 + 3, none⟩ u3).cell? ⟨w6.heap.size, 0, none⟩ = some (.slice (some ⟨g6, 0, none⟩) c.length c6) ∧ ((((w8.setCell ⟨g6, n * 4, none⟩ u0).setCell ⟨g6, n * 4 + 1, none⟩ u1).setCell ⟨g6, n * 4 + 2, none⟩ u2).setCell ⟨g6, n * 4 + 3, none⟩ u3).cell? ⟨w3.heap.size, 0, none⟩ = some (.int .i64 p.params) ∧ ((((w8.setCell ⟨g6, n * 4, none⟩ u0).setCell ⟨g6, n * 4 + 1, none⟩ u1).setCell ⟨g6, n * 4 + 2, none⟩ u2).setCell ⟨g6, n * 4 + 3, none⟩ u3).cell? ⟨w3.heap.size, 1, none⟩ = some (.int .i64 p.holds) ∧ ((((w8.setCell ⟨g6, n * 4, none⟩ u0).setCell ⟨g6, n * 4 + 1, none⟩ u1).setCell ⟨g6, n * 4 + 2, none⟩ u2).setCell ⟨g6, n * 4 + 3, none⟩ u3).cell? ⟨w3.heap.size, 2, none⟩ = some (.int .i64 p.regs) ∧ ((((w8.setCell ⟨g6, n * 4, none⟩ u0).setCell ⟨g6, n * 4 + 1, none⟩ u1).setCell ⟨g6, n * 4 + 2, none⟩ u2).setCell ⟨g6, n * 4 + 3, none⟩ u3).cell? ⟨w3.heap.size, 3, none⟩ = some (.slice ab p.blocks.length cb)) := fun u0 u1 u2 u3 => ⟨((cell_set_block _ _ hne1).trans ((cell_set_block _ _ hne1).trans ((cell_set_block _ _ hne1).trans (cell_set_block _ _ hne1)))).trans HF8.out.1, ((cell_set_block _ _ hne2).trans ((cell_set_block _ _ hne2).trans ((cell_set_block _ _ hne2).trans (cell_set_block _ _ hne2)))).trans HF8.out.2.1, ((cell_set_block _ _ hne2).trans ((cell_set_block _ _ hne2).trans ((cell_set_block _ _ hne2).trans (cell_set_block _ _ hne2)))).trans HF8.out.2.2.1, ((cell_set_block _ _ hne2).trans ((cell_set_block _ _ hne2).trans ((cell_set_block _ _ hne2).trans (cell_set_block _ _ hne2)))).trans HF8.out.2.2.2.1, ((cell_set_block _ _ hne2).trans ((cell_set_block _ _ hne2).trans ((cell_set_block _ _ hne2).trans (cell_set_block _ _ hne2)))).trans HF8.out.2.2.2.2⟩; have ho8 : w8.ownsRow w5.heap.size 40 4 (.slice (some ⟨g6, 0, none⟩) c.length c6) c.length cs := own_same HO7.out (fun q e => h78.block q (HO7.out.lt q e).2); have HO8 := Lib.hid ho8; have d0 := (ho8.cellAt (n * 4) (by have := HLT.out; omega)).trans HE.out.1; have d1 := (ho8.cellAt (n * 4 + 1) (by have := HLT.out; omega)).trans HE.out.2.1; have d2 := (ho8.cellAt (n * 4 + 2) (by have := HLT.out; omega)).trans HE.out.2.2.1; have d3 := (ho8.cellAt (n * 4 + 3) (by have := HLT.out; omega)).trans HE.out.2.2.2; have f0 := ho8.frozenAt (n * 4); have f1 := ho8.frozenAt (n * 4 + 1); have f2 := ho8.frozenAt (n * 4 + 2); have f3 := ho8.frozenAt (n * 4 + 3); clear h78 hrow8 hb8 ho8))
  obtain ⟨w9, hw9⟩ : ∃ w9, w9 = ((((w8.setCell ⟨g6, n * 4, none⟩ (.int .i64 p.params)).setCell ⟨g6, n * 4 + 1, none⟩ (.int .i64 p.holds)).setCell ⟨g6, n * 4 + 2, none⟩ (.int .i64 p.regs)).setCell ⟨g6, n * 4 + 3, none⟩ (.slice a9 n9 c9)) := ⟨_, rfl⟩
  rw [← hw9]
  have h38 := H37.out.trans (H78.out.mono H37.out.size)
  have hg3 : w3.heap.size ≤ g6 := by have := HG6.out; have := H35.out.size; omega
  have h39 : Below w3.heap.size w3 w9 := by
    rw [hw9]
    exact (((h38.setCell (p := ⟨g6, n * 4, none⟩) hg3 _).setCell (p := ⟨g6, n * 4 + 1, none⟩) hg3 _).setCell (p := ⟨g6, n * 4 + 2, none⟩) hg3 _).setCell (p := ⟨g6, n * 4 + 3, none⟩) hg3 _
  have hoth : ∀ q, q ≠ g6 → w9.heap[q]? = w8.heap[q]? := fun q hq => by rw [hw9, heap_setCell_other _ _ _ _ hq, heap_setCell_other _ _ _ _ hq, heap_setCell_other _ _ _ _ hq, heap_setCell_other _ _ _ _ hq]
  have hs9 : w9.heap.size = w8.heap.size := by rw [hw9]; simp [World.setCell]
  have hrow9 := HR8.out w9 h39 (by rw [hs9]; exact Nat.le_refl _) (fun q q1 q2 => hoth q (by have h1 : w7.heap.size ≤ q := q1; have h2 := HG6.out; have h3 := HL7.out.1; omega))
  have hown9 : w9.ownsRow w5.heap.size 40 4 (.slice (some ⟨g6, 0, none⟩) c.length c6) c.length ((((cs.set (n * 4) (.int .i64 p.params)).set (n * 4 + 1) (.int .i64 p.holds)).set (n * 4 + 2) (.int .i64 p.regs)).set (n * 4 + 3) (.slice a9 n9 c9)) := by
    rw [hw9]
    exact ((((HO8.out.stored _ _).1.stored _ _).1.stored _ _).1.stored _ _).1
  have hcode9 := PCs.code hown9 ((HPC.out.bel h39).set hnl (x := turnedP p n a b) hrow9) (by rw [List.length_set])
  rw [List.length_set] at hcode9
  obtain ⟨d, hd⟩ : ∃ d, d = c.set n (turnedP p n a b) := ⟨_, rfl⟩
  rw [← hd] at hcode9
  have HLD : Hid (d.length = c.length) := by rw [hd]; exact List.length_set ..
  have HFD : Hid (∀ q ∈ d, PrcFit q) := fun q hq => by
    rw [hd] at hq
    rcases List.mem_or_eq_of_mem_set hq with hq | rfl
    · exact HI.out.fit q hq
    · exact turnedP_fit (HI.out.fit p (List.mem_of_getElem? HP.out))
  have HCK : Hid (chk d = 0) := by rw [hd]; exact turnN_chk HK0.out HP.out HAB.out.1 HAB.out.2
  have HRUN : Hid (run d l 2000 = run c l 2000) := by rw [hd]; exact names_run HK0.out HOK.out HP.out HAB.out.1 HAB.out.2 l 2000
  have HCODE := Lib.hid hcode9
  have HDL : Hid (d.length ≤ 1000000000000000) := by rw [HLD.out]; exact (by omega : c.length ≤ 1000000000000000)
  have HB9 := Lib.hid (HB3.out.trans (h39.mono HB3.out.size))
  have hne1 : w6.heap.size ≠ g6 := by have := HG6.out; omega
  have hneW : W.heap.size ≠ g6 := by have := HG6.out; have := HWL.out; omega
  have hcd9 := (hoth _ hne1).trans ((H78.out.block _ HL7.out.1).trans HD7.out)
  have hcb9 := (hoth _ hneW).trans ((H78.out.block _ HL7.out.2.2.2).trans HCB7.out)
  have j0 := cell_of_row w9 _ 0 _ _ _ hcb9
  have j1 := cell_of_row w9 _ 0 _ _ _ hcd9
  simp only [List.getElem?_toArray, List.getElem?_cons_zero] at j0 j1
  have HF10 : Hid (w9.cell? ⟨W.heap.size, 0, none⟩ = some (.slice (some ⟨bq, off, none⟩) c.length cl) ∧ w9.cell? ⟨w6.heap.size, 0, none⟩ = some (.slice (some ⟨g6, 0, none⟩) c.length c6)) := ⟨j0, j1⟩
  have HL9 : Hid (W.heap.size < w9.heap.size ∧ w6.heap.size < w9.heap.size) := ⟨(Array.getElem?_eq_some_iff.1 hcb9).1, (Array.getElem?_eq_some_iff.1 hcd9).1⟩
  have HCHK : Hid (∀ w, Below w9.heap.size w9 w → Calls Try.prog 9 #[.agg #[.slice (some ⟨g6, 0, none⟩) c.length c6]] w fun e w' => e = .returned (.int .i64 0) ∧ Below w.heap.size w w') := fun w hb => by
    have := Check_any (c := d) (w := w) (some ⟨g6, 0, none⟩) c6 (by rw [HLD.out]; exact HCODE.out.bel hb) HDL.out HFD.out
    rw [HLD.out] at this
    refine this.mono ?_
    rintro e w' ⟨h1, h2⟩
    rw [HCK.out] at h1
    exact ⟨h1, h2⟩
  have HRC : Hid (∀ w, Below w9.heap.size w9 w → Calls Try.prog 11 #[.agg #[.slice (some ⟨bq, off, none⟩) c.length cl], .string ⟨l.toArray⟩, .int .i64 2000] w (OutPost (run c l 2000) w)) := fun w hb => HI.out.run (HB9.out.trans (hb.mono HB9.out.size)) l 2000 (.inl (by decide))
  have HRD : Hid (∀ w, Below w9.heap.size w9 w → Calls Try.prog 11 #[.agg #[.slice (some ⟨g6, 0, none⟩) c.length c6], .string ⟨l.toArray⟩, .int .i64 2000] w (OutPost (run c l 2000) w)) := fun w hb => by
    have := Run_any (c := d) (w := w) l 2000 (some ⟨g6, 0, none⟩) c6 (.inl (by decide)) (by rw [HLD.out]; exact HCODE.out.bel hb) HDL.out HFD.out
    rw [HLD.out, HRUN.out] at this
    exact this
  obtain ⟨o, ho⟩ : ∃ o, o = run c l 2000 := ⟨_, rfl⟩
  rw [← ho] at HRC HRD
  have HSH : Hid (Dt.Short (o.shown.getD (.mk 0 0 ⟨#[]⟩ []))) := by rw [ho]; exact run_short c l 2000
  clear ho hd hw9 h38 hg3 h39 hoth hs9 hrow9 hown9 hcode9 hcd9 hcb9 j0 j1 d0 d1 d2 d3 f0 f1 f2 f3 hne1 hne2 hneW HF7 HF8 HF9 HO8 HO7 HO6 HR8 HPC HE HSRC HONE HCS
  go_wp2_with fail
  go_region_held3 (fun w' => w'.cell? ⟨W.heap.size, 0, none⟩ = some (.slice (some ⟨bq, off, none⟩) c.length cl) ∧ w'.cell? ⟨w6.heap.size, 0, none⟩ = some (.slice (some ⟨g6, 0, none⟩) c.length c6))
    (first | with_reducible exact HF10.out | with_reducible exact HF11.out | with_reducible exact HF12.out | with_reducible exact HF13.out | with_reducible exact HF14.out | exact HF10.out)
    (first
      | (go_at_call 9; (with_reducible refine (HCHK.out _ ((Below.refl _ _).drew)).mono ?_); rintro e w11 ⟨rfl, hb11⟩; have hb11' := ((Below.refl w9.heap.size w9).drew).trans hb11; have HB11 := Lib.hid hb11'; have HF11 : Hid (w11.cell? ⟨W.heap.size, 0, none⟩ = some (.slice (some ⟨bq, off, none⟩) c.length cl) ∧ w11.cell? ⟨w6.heap.size, 0, none⟩ = some (.slice (some ⟨g6, 0, none⟩) c.length c6)) := ⟨(cell_bel hb11' HL9.out.1).trans HF10.out.1, (cell_bel hb11' HL9.out.2).trans HF10.out.2⟩; clear hb11 hb11')
      | (go_at_call 11; (with_reducible refine (HRC.out _ HB11.out).mono ?_); rintro e w12 ⟨d1, a1, z1, rfl, hd1, hb12, hdo1⟩; subst hdo1; have hb12' := HB11.out.trans (hb12.mono HB11.out.size); have HB12 := Lib.hid hb12'; have HD1 := Lib.hid hd1; have HF12 : Hid (w12.cell? ⟨W.heap.size, 0, none⟩ = some (.slice (some ⟨bq, off, none⟩) c.length cl) ∧ w12.cell? ⟨w6.heap.size, 0, none⟩ = some (.slice (some ⟨g6, 0, none⟩) c.length c6)) := ⟨(cell_bel hb12' HL9.out.1).trans HF10.out.1, (cell_bel hb12' HL9.out.2).trans HF10.out.2⟩; clear hb12 hb12' hd1)
      | (go_at_call 11; (with_reducible refine (HRD.out _ HB12.out).mono ?_); rintro e w13 ⟨d2, a2, z2, rfl, hd2, hb13, hdo2⟩; subst hdo2; have hb13' := HB12.out.trans (hb13.mono HB12.out.size); have HB13 := Lib.hid hb13'; have HD2 := Lib.hid hd2; have HD12 := Lib.hid (HD1.out.bel hb13 (Nat.le_refl _)); have HF13 : Hid (w13.cell? ⟨W.heap.size, 0, none⟩ = some (.slice (some ⟨bq, off, none⟩) c.length cl) ∧ w13.cell? ⟨w6.heap.size, 0, none⟩ = some (.slice (some ⟨g6, 0, none⟩) c.length c6)) := ⟨(cell_bel hb13' HL9.out.1).trans HF10.out.1, (cell_bel hb13' HL9.out.2).trans HF10.out.2⟩; clear hb13 hb13' hd2)
      | (go_at_call 12; (with_reducible refine (same9_yes o.e o.out _ _ _ o.shown.isSome o.steps w13 HSH.out (HD12.out.mono fun _ _ _ => trivial) (HD2.out.mono fun _ _ _ => trivial)).mono ?_); rintro e w14 ⟨rfl, hb14⟩; have hb14' := HB13.out.trans (hb14.mono HB13.out.size); have HB14 := Lib.hid hb14'; have HF14 : Hid (w14.cell? ⟨W.heap.size, 0, none⟩ = some (.slice (some ⟨bq, off, none⟩) c.length cl) ∧ w14.cell? ⟨w6.heap.size, 0, none⟩ = some (.slice (some ⟨g6, 0, none⟩) c.length c6)) := ⟨(cell_bel hb14' HL9.out.1).trans HF10.out.1, (cell_bel hb14' HL9.out.2).trans HF10.out.2⟩; clear hb14 hb14'))
  go_wp2_with fail
  go_ret
  exact ⟨rfl, HB9.out.trans (HB14.out.mono HB9.out.size)⟩
theorem names_walk (al : Option Addr) (m cl : Nat) (inp : ByteArray) (k a b : Int) (W : World) (h : ∃ c : Code, c.length = m ∧ CodeAt W (.slice al c.length cl) c ∧ c.length ≤ 1000000000000000 ∧ ∀ p ∈ c, PrcFit p) :
    Calls Try.prog 5 #[.agg #[.slice al m cl], .string inp, .agg #[.int .i64 k, .int .i64 a, .int .i64 b]] W fun e w' => e = .returned (.bool true) ∧ Below W.heap.size W w' := by
  obtain ⟨c, rfl, h1, h2, h3⟩ := h
  obtain ⟨l, rfl⟩ := as_list inp
  exact vnames_walk al cl c l k a b W ⟨h1, h2, h3⟩
end Vm
end Go.Proofs.Ytalfnaielhbocaa
