/- box: box, walked. -/
import Derived.Test.YtkplkgdfphbldaaGreatHJbd
import Derived.Test.YtkplkgdfphbldaaGreatHJbk
import Derived.Test.YtkplkgdfphbldaaGreatHJax
import Derived.Test.YtkplkgdfphbldaaGreatHJay
namespace Go.Proofs.YtkplkgdfphbldaaGreat
open Go.RowKit
open Go.Lib (hid)
set_option linter.unusedVariables false
set_option linter.unusedSimpArgs false
set_option linter.unnecessarySimpa false
set_option maxRecDepth 100000
namespace Ew
open Rn
def BV (V : ByteArray → Int) : ByteArray → Bool := fun s => decide (V s = 1)
def upW (e : Ex) (V : ByteArray → Int) (j : Nat) : ByteArray → Int := fun s => if Ex.inN (e.names.take j) s then (if Ex.assigned e s then 1 else 0) else V s
theorem upW_zero (e : Ex) (V : ByteArray → Int) : upW e V 0 = V := rfl
theorem upW_step {e : Ex} {V : ByteArray → Int} {j : Nat} {n : ByteArray} (hn : e.names[j]? = some n) : setV (upW e V j) n (if Ex.assigned e n then 1 else 0) = upW e V (j + 1) := by
 funext s
 unfold setV upW Ex.inN
 rw [List.take_add_one, hn, List.any_append]
 simp only [Option.toList_some, List.any_cons, List.any_nil, Bool.or_false, Bool.or_eq_true, decide_eq_true_eq]
 by_cases h : s = n
 ·subst h
  generalize (if Ex.assigned e s then (1 : Int) else 0) = q
  rw [if_pos rfl, if_pos (.inr rfl)]
 ·rw [if_neg h]
  generalize (if Ex.assigned e s then (1 : Int) else 0) = q
  by_cases h2 : ((e.names.take j).any fun x => decide (x = s)) = true
  ·rw [if_pos h2, if_pos (.inl h2)]
  ·rw [if_neg h2, if_neg (fun k => k.elim h2 fun k => h k.symm)]
theorem upW_end (e : Ex) (V : ByteArray → Int) : BV (upW e V e.names.length) = Ex.innerB e (BV V) := by
 funext s
 unfold BV upW Ex.innerB
 rw [List.take_length]
 split
 ·cases Ex.assigned e s <;> rfl
 ·rfl
structure Bx (B : Nat) (e : Ex) (nv dl : Value) (w5 : World) (ρ0 : Nat → Nat) (ob : Nat) (wr : World) (ρ : Nat → Nat) (kv : Value) (M : List XM) : Prop where
 blk : wr.heap[ob]? = some (.cells #[.int .i64 e.kind, .string e.name, nv, .int .i64 e.const.kind, .int .i64 e.const.int, .string e.const.text, dl, kv] 28 (0, 0))
 row : XR wr ρ 2 kv M
 ri : RI B wr ρ
 gr : GrS (fun r => r = 1 ∨ r = 2) w5 ρ0 wr ρ
 ro : ρ ob = 1
theorem Kid.bel {w w' : World} {ka : Option Addr} {n j : Nat} {x : Ex} {kb koff : Nat} {na : Option Addr} {nc : Nat} {da : Option Addr} {dn dc : Nat} {ya : Option Addr} {yc : Nat} (h : Kid w ka n j x kb koff na nc da dn dc ya yc) (hb : Below w.heap.size w w') : Kid w' ka n j x kb koff na nc da dn dc ya yc := by
 obtain ⟨h1, h2, h3, h4, c0, c1, c2, c3, c4, c5, c6, c7⟩ := h
 have k : ∀ o, w'.cell? ⟨kb, o, none⟩ = w.cell? ⟨kb, o, none⟩ := fun o => hb.cell (p := ⟨kb, o, none⟩) h2
 exact ⟨h1, Nat.lt_of_lt_of_le h2 hb.size, h3, h4.bel hb, (k _).trans c0, (k _).trans c1, (k _).trans c2, (k _).trans c3, (k _).trans c4, (k _).trans c5, (k _).trans c6, (k _).trans c7⟩
section
variable {B : Nat} {e : Ex} {nv dl : Value} {w5 : World} {ρ0 : Nat → Nat} {ob : Nat} {wr : World} {ρ : Nat → Nat} {kv : Value} {M : List XM}
theorem Bx.bel (h : Bx B e nv dl w5 ρ0 ob wr ρ kv M) {w' : World} (hb : Below wr.heap.size wr w') : Bx B e nv dl w5 ρ0 ob w' ρ kv M :=
 ⟨(hb.block ob (Array.getElem?_eq_some_iff.1 h.blk).1).trans h.blk, h.row.bel hb, h.ri.bel hb, h.gr.trans (GrS.of_bel hb), h.ro⟩
theorem Bx.next (h : Bx B e nv dl w5 ρ0 ob wr ρ kv M) {y : XM} (hy : Free0 ρ wr (fun w => ExAt w y.val y.e)) {w1 w2 : World} {v' : Value} (hb : Below wr.heap.size wr w1) (hown : w2.ownsRow 0 28 8 v' (M.length + 1) (flatX M ++ y.cells)) (hg : w1.grownBy w2 kv.ownBlock) (hl : v'.ownBlock = kv.ownBlock ∨ v'.ownBlock = some w1.heap.size) :
  ∃ ρ', Bx B e nv dl w5 ρ0 ob (w2.setCell ⟨ob, 7, none⟩ v') ρ' v' (M ++ [y]) := by
 obtain ⟨ρ', k1, k2, k3⟩ := h.row.push (B := B) h.ri (by decide) hy hb hown hg hl
 have hol := (Array.getElem?_eq_some_iff.1 h.blk).1
 have ho2 : ρ' ob = 1 := (k2.role ob hol).trans h.ro
 have hs : Gr 1 w2 ρ' (w2.setCell ⟨ob, 7, none⟩ v') ρ' := Gr.set v' ho2
 exact ⟨ρ', heap_setCell_same w2 ob 7 _ _ v' ((k2.keep ob hol (by rw [h.ro]; decide)).trans h.blk), k1.gr (by decide) (by decide) hs, k3.set, (h.gr.trans (k2.toS (.inr rfl))).trans (hs.toS (.inl rfl)), ho2⟩
theorem Bx.obk (h : Bx B e nv dl w5 ρ0 ob wr ρ kv M) {w1 w2 : World} (hb : Below wr.heap.size wr w1) (hg : w1.grownBy w2 kv.ownBlock) : w2.heap[ob]? = some (.cells #[.int .i64 e.kind, .string e.name, nv, .int .i64 e.const.kind, .int .i64 e.const.int, .string e.const.text, dl, kv] 28 (0, 0)) := by
 have hol := (Array.getElem?_eq_some_iff.1 h.blk).1
 refine (hg.block ob (Nat.lt_of_lt_of_le hol hb.size) fun e => ?_).trans ((hb.block ob hol).trans h.blk)
 have h2 := h.row.row.2 ob e.symm
 rw [h.ro] at h2
 cases h2
theorem Bx.below (h : Bx B e nv dl w5 ρ0 ob wr ρ kv M) {N : Nat} (hN : ∀ b, b < N → ρ0 b ≠ 1 ∧ ρ0 b ≠ 2) (hl : N ≤ w5.heap.size) : Below N w5 wr := h.gr.bel (fun b hb => by have := hN b hb; show ¬ (ρ0 b = 1 ∨ ρ0 b = 2); omega) hl
theorem own_lit1 {w : World} {g : Nat} {x : XM} (h : w.heap[g]? = some (.cells #[.int .i64 x.e.kind, .string x.e.name, x.nv, .int .i64 x.e.const.kind, .int .i64 x.e.const.int, .string x.e.const.text, x.dl, x.kv] 28 (0, 0))) : w.ownsRow 0 28 8 (.slice (some ⟨g, 0, none⟩) 1 1) 1 (flatX [x]) :=
 ⟨by rw [flatX_length]; rfl, .inr ⟨g, 1, _, rfl, Nat.zero_le _, h, Nat.le_refl _, by decide, rfl, by rw [flatX_one]; rfl⟩⟩
theorem prim1_on {S : Nat → Prop} {w : World} {g : Nat} {x : XM} (s : ByteArray) (h : w.heap[g]? = some (.cells #[.int .i64 x.e.kind, .string x.e.name, x.nv, .int .i64 x.e.const.kind, .int .i64 x.e.const.int, .string x.e.const.text, x.dl, x.kv] 28 (0, 0))) (hg : S g) (hx : On S w (fun w => ExAt w x.val x.e)) :
  On S w (fun w => ExAt w (exV 7 s (.slice none 0 0) Dt.zero (.slice none 0 0) (.slice (some ⟨g, 0, none⟩) 1 1)) (Ex.primE s [x.e])) := by
 have hk : On S w (fun w => KidsAt w (.slice (some ⟨g, 0, none⟩) 1 1) [x.e]) := On.kids (M := [x]) (own_lit1 h) (fun b e => by cases e; exact hg) (fun y hy => by simp at hy; subst hy; exact hx)
 exact On.mk On.nil On.zero room_nil hk
theorem made_box {B : Nat} {w wx wy : World} {ρ : Nat → Nat} {z : Nat} {P : World → Prop} (hB : B ≤ w.heap.size) (h : On (fun b => ρ b = 0 ∨ ρ b = 2) wx P) (hb : Below wx.heap.size wx wy) (h8 : ∀ b, B ≤ b → b < w.heap.size → ρ b = 8) (hz : ρ z = 9) (b0 b1 b2 b3 b4 b5 b6 b7 : Value) :
  On (fun b => b < B ∨ w.heap.size ≤ b) (put8 wy z b0 b1 b2 b3 b4 b5 b6 b7) P := by
 refine (on_put8 (h.bel hb) (fun e => ?_) _ _ _ _ _ _ _ _).mono fun b hs _ => ?_
 ·have e : ρ z = 0 ∨ ρ z = 2 := e
  omega
 ·have h1 : ρ b = 0 ∨ ρ b = 2 := hs
  by_cases h2 : b < B
  ·exact .inl h2
  ·by_cases h3 : b < w.heap.size
   ·have := h8 b (by omega) h3
    omega
   ·exact .inr (by omega)
theorem Bx.kids (h : Bx B e nv dl w5 ρ0 ob wr ρ kv M) : On (fun b => ρ b = 0 ∨ ρ b = 2) wr (fun w => KidsAt w kv (M.map (·.e))) :=
 On.kids h.row.row.1 (fun b e => .inr (h.row.row.2 b e)) fun x hx => (h.row.els x hx).mono fun b e _ => .inl e
theorem Bx.base (h : Bx B e nv dl w5 ρ0 ob wr ρ kv M) {w0 : World} {na : Option Addr} {nc : Nat} {da : Option Addr} {dn dc : Nat} {ka : Option Addr} {kc : Nat} (ho : Op w0 e na nc da dn dc ka kc) (hb : Below w0.heap.size w0 wr) (hB : w0.heap.size = B) :
  On (fun b => ρ b = 0 ∨ ρ b = 2) wr (fun w => ExAt w (exV e.kind e.name (.slice na e.names.length nc) e.const (.slice da dn dc) kv) (.mk e.kind e.name e.names e.const (M.map (·.e)))) :=
 On.mk (On.sl ho.names hb fun b hl => .inl (h.ri.low b (by omega))) (On.dt ho.const hb fun b hl => .inl (h.ri.low b (by omega))) ⟨_, _, _, rfl, ho.room⟩ h.kids
end
theorem form_let8 {e : Ex} (h : Ex.form e = true) (hk : e.kind = 8) : e.kids.length = e.names.length + 1 := by
 unfold Ex.form at h
 simp [hk] at h
 exact h.2.2
theorem form_lam5 {e : Ex} (h : Ex.form e = true) (hk : e.kind = 5) : e.kids.length = 1 ∧ e.names.length ≤ 6 := by
 unfold Ex.form at h
 simp [hk] at h
 exact ⟨h.2.2, h.2.1.2⟩
theorem form_one {e : Ex} (h : Ex.form e = true) (hk : e.kind = 2) : e.kids.length = 1 := by
 unfold Ex.form at h
 simp [hk] at h
 exact h.2.2
set_option maxHeartbeats 2000000 in
theorem ref_any (s : ByteArray) (w : World) : Calls Tryz.prog 60 #[.string s] w fun en w' => en = .returned (.agg #[.int .i64 1, .string s, .slice none 0 0, .int .i64 0, .int .i64 0, .string ⟨#[]⟩, .slice none 0 0, .slice none 0 0]) ∧ Below w.heap.size w w' := by
 go_enter Tryz.func60, Tryz.ntmps60
 go_wp2_with fail
 refine bodyPost_ret (res1 rfl _ _ w.heap.size 28 #[.int .i64 1, .string s, .slice none 0 0, .int .i64 0, .int .i64 0, .string ⟨#[]⟩, .slice none 0 0, .slice none 0 0] (0, 0) rfl (heap_alloc_new w _) exprD exprSize) rfl ?_
 exact ⟨rfl, (Below.refl _ _).alloc (Nat.le_refl _) _⟩
structure Kz (wr W : World) (z : Nat) : Prop where
 keep : ∀ b, b < wr.heap.size → b ≠ z → W.heap[b]? = wr.heap[b]?
 size : wr.heap.size ≤ W.heap.size
theorem Kz.bel {wr W W' : World} {z : Nat} (h : Kz wr W z) (hb : Below W.heap.size W W') : Kz wr W' z := ⟨fun b hl hn => (hb.block b (Nat.lt_of_lt_of_le hl h.size)).trans (h.keep b hl hn), Nat.le_trans h.size hb.size⟩
theorem Kz.set8 {wr W : World} {z : Nat} (h : Kz wr W z) (b0 b1 b2 b3 b4 b5 b6 b7 : Value) : Kz wr ((((((((W.setCell ⟨z, 0, none⟩ b0).setCell ⟨z, 1, none⟩ b1).setCell ⟨z, 2, none⟩ b2).setCell ⟨z, 3, none⟩ b3).setCell ⟨z, 4, none⟩ b4).setCell ⟨z, 5, none⟩ b5).setCell ⟨z, 6, none⟩ b6).setCell ⟨z, 7, none⟩ b7) z := by
 have hp := put8_kp (g := z) (w := W) b0 b1 b2 b3 b4 b5 b6 b7
 exact ⟨fun b hl hn => (hp.2 b hn).trans (h.keep b hl hn), by have := hp.1; unfold put8 at this; rw [this]; exact h.size⟩
abbrev S24 (wr W : World) (z pb ob g : Nat) (n : ByteArray) (kv : Value) (x : XM) : Prop :=
 Kz wr W z ∧ W.cell? ⟨pb, 1, none⟩ = some (.string n) ∧ W.cell? ⟨ob, 7, none⟩ = some kv ∧ W.cell? ⟨g, 0, none⟩ = some (.int .i64 x.e.kind) ∧ W.cell? ⟨g, 0 + 1, none⟩ = some (.string x.e.name) ∧ W.cell? ⟨g, 0 + 2, none⟩ = some x.nv ∧ W.cell? ⟨g, 0 + 3, none⟩ = some (.int .i64 x.e.const.kind) ∧ W.cell? ⟨g, 0 + 4, none⟩ = some (.int .i64 x.e.const.int) ∧ W.cell? ⟨g, 0 + 5, none⟩ = some (.string x.e.const.text) ∧ W.cell? ⟨g, 0 + 6, none⟩ = some x.dl ∧ W.cell? ⟨g, 0 + 7, none⟩ = some x.kv
theorem s24 {wr W : World} {z pb ob g : Nat} {n : ByteArray} {kv : Value} {x : XM} (h : S24 wr wr z pb ob g n kv x) (h1 : pb ≠ z) (h2 : ob ≠ z) (h3 : g ≠ z) (m : Kz wr W z) : S24 wr W z pb ob g n kv x := by
 have k : ∀ {b o : Nat} {v : Value}, b ≠ z → wr.cell? ⟨b, o, none⟩ = some v → W.cell? ⟨b, o, none⟩ = some v := fun {b o v} hb hc =>
  (World.cell?_of_block (a := ⟨b, o, none⟩) (m.keep b (World.block_lt_of_cell? wr _ hc) hb)).trans hc
 obtain ⟨_, c1, c2, d0, d1, d2, d3, d4, d5, d6, d7⟩ := h
 exact ⟨m, k h1 c1, k h2 c2, k h3 d0, k h3 d1, k h3 d2, k h3 d3, k h3 d4, k h3 d5, k h3 d6, k h3 d7⟩
theorem own_lit2 {w : World} {g : Nat} {x y : XM} (h : w.heap[g]? = some (.cells (x.cells ++ y.cells).toArray 28 (0, 0))) : w.ownsRow 0 28 8 (.slice (some ⟨g, 0, none⟩) 2 2) 2 (flatX [x, y]) :=
 ⟨by rw [flatX_length]; rfl, .inr ⟨g, 2, _, rfl, Nat.zero_le _, h, Nat.le_refl _, by decide, rfl, by simp [flatX, XM.cells, exC]⟩⟩
theorem flatX_set {M : List XM} {i : Nat} {x : XM} (y : XM) (hx : M[i]? = some x) : flatX (M.set i y) = ((((((((flatX M).set (i * 8) (.int .i64 y.e.kind)).set (i * 8 + 1) (.string y.e.name)).set (i * 8 + 2) y.nv).set (i * 8 + 3) (.int .i64 y.e.const.kind)).set (i * 8 + 4) (.int .i64 y.e.const.int)).set (i * 8 + 5) (.string y.e.const.text)).set (i * 8 + 6) y.dl).set (i * 8 + 7) y.kv := by
 have hi := (List.getElem?_eq_some_iff.1 hx).1
 have hM : M = M.take i ++ x :: M.drop (i + 1) := by
  have e : M[i] = x := (List.getElem?_eq_some_iff.1 hx).2
  rw [← e, ← List.drop_eq_getElem_cons hi, List.take_append_drop]
 have hs : M.set i y = M.take i ++ y :: M.drop (i + 1) := List.set_eq_take_append_cons_drop .. |>.trans (if_pos hi)
 have hA : (flatX (M.take i)).length = i * 8 := by rw [flatX_length, List.length_take]; congr 1; omega
 have hf : flatX M = flatX (M.take i) ++ (x.cells ++ flatX (M.drop (i + 1))) := by
  conv => lhs; rw [hM]
  rw [flatX_app]
  rfl
 have hg : flatX (M.set i y) = flatX (M.take i) ++ (y.cells ++ flatX (M.drop (i + 1))) := by
  rw [hs, flatX_app]
  rfl
 have e0 : ∀ (Z : List Value) (u : Value), (flatX (M.take i) ++ Z).set (i * 8) u = flatX (M.take i) ++ Z.set 0 u := fun Z u => set_tail _ Z (i * 8) 0 hA u
 rw [hf, hg, e0, set_tail _ _ _ 1 hA, set_tail _ _ _ 2 hA, set_tail _ _ _ 3 hA, set_tail _ _ _ 4 hA, set_tail _ _ _ 5 hA, set_tail _ _ _ 6 hA, set_tail _ _ _ 7 hA]
 rfl
def putR (w : World) (g o : Nat) (b0 b1 b2 b3 b4 b5 b6 b7 : Value) : World := (((((((w.setCell ⟨g, o, none⟩ b0).setCell ⟨g, o + 1, none⟩ b1).setCell ⟨g, o + 2, none⟩ b2).setCell ⟨g, o + 3, none⟩ b3).setCell ⟨g, o + 4, none⟩ b4).setCell ⟨g, o + 5, none⟩ b5).setCell ⟨g, o + 6, none⟩ b6).setCell ⟨g, o + 7, none⟩ b7
theorem putR_gr {r g o : Nat} {w : World} {ρ : Nat → Nat} (h : ρ g = r) (b0 b1 b2 b3 b4 b5 b6 b7 : Value) : Gr r w ρ (putR w g o b0 b1 b2 b3 b4 b5 b6 b7) ρ := by
 unfold putR
 have k : ∀ (W : World) (i : Nat) (v : Value), Gr r w ρ W ρ → Gr r w ρ (W.setCell ⟨g, i, none⟩ v) ρ := fun W i v hW => hW.trans (Gr.set v h)
 exact k _ _ _ (k _ _ _ (k _ _ _ (k _ _ _ (k _ _ _ (k _ _ _ (k _ _ _ (Gr.set _ h)))))))
theorem putR_own {w : World} {B ty g n c i : Nat} {M : List XM} {x : XM} (y : XM) (h : w.ownsRow B ty 8 (.slice (some ⟨g, 0, none⟩) n c) n (flatX M)) (hx : M[i]? = some x) : (putR w g (i * 8) (.int .i64 y.e.kind) (.string y.e.name) y.nv (.int .i64 y.e.const.kind) (.int .i64 y.e.const.int) (.string y.e.const.text) y.dl y.kv).ownsRow B ty 8 (.slice (some ⟨g, 0, none⟩) n c) n (flatX (M.set i y)) := by
 obtain ⟨p0, _⟩ := h.stored (i * 8) (.int .i64 y.e.kind)
 obtain ⟨p1, _⟩ := p0.stored (i * 8 + 1) (.string y.e.name)
 obtain ⟨p2, _⟩ := p1.stored (i * 8 + 2) y.nv
 obtain ⟨p3, _⟩ := p2.stored (i * 8 + 3) (.int .i64 y.e.const.kind)
 obtain ⟨p4, _⟩ := p3.stored (i * 8 + 4) (.int .i64 y.e.const.int)
 obtain ⟨p5, _⟩ := p4.stored (i * 8 + 5) (.string y.e.const.text)
 obtain ⟨p6, _⟩ := p5.stored (i * 8 + 6) y.dl
 obtain ⟨p7, _⟩ := p6.stored (i * 8 + 7) y.kv
 rw [flatX_set y hx]
 exact p7
section
variable {B : Nat} {e : Ex} {nv dl : Value} {w5 : World} {ρ0 : Nat → Nat} {ob : Nat} {wr : World} {ρ : Nat → Nat} {kv : Value} {M : List XM}
theorem Bx.set {g c i : Nat} {x y : XM} (h : Bx B e nv dl w5 ρ0 ob wr ρ (.slice (some ⟨g, 0, none⟩) M.length c) M) (hx : M[i]? = some x) {w1 : World} (hb : Below wr.heap.size wr w1) (hy : Free0 ρ w1 (fun w => ExAt w y.val y.e)) :
  Bx B e nv dl w5 ρ0 ob (putR w1 g (i * 8) (.int .i64 y.e.kind) (.string y.e.name) y.nv (.int .i64 y.e.const.kind) (.int .i64 y.e.const.int) (.string y.e.const.text) y.dl y.kv) ρ (.slice (some ⟨g, 0, none⟩) M.length c) (M.set i y) := by
 have h1 := h.bel hb
 have hr : ρ g = 2 := h1.row.row.2 g rfl
 have hg := putR_gr (w := w1) (o := i * 8) hr (.int .i64 y.e.kind) (.string y.e.name) y.nv (.int .i64 y.e.const.kind) (.int .i64 y.e.const.int) (.string y.e.const.text) y.dl y.kv
 refine ⟨(hg.keep ob (Array.getElem?_eq_some_iff.1 h1.blk).1 (by rw [h.ro]; decide)).trans h1.blk, ⟨⟨by rw [List.length_set]; exact putR_own y h1.row.row.1 hx, h1.row.row.2⟩, fun z hz => ?_⟩, ⟨h1.ri.low, fun b hl => h1.ri.hi b (Nat.le_trans hg.size hl), Nat.le_trans h1.ri.le hg.size⟩, h1.gr.trans (hg.toS (.inr rfl)), h1.ro⟩
 rcases List.mem_or_eq_of_mem_set hz with hz | rfl
 ·exact free_gr (h1.row.els z hz) (by decide) hg
 ·exact free_gr hy (by decide) hg
end
theorem boxIns_step {B : ByteArray → Bool} : ∀ {ns : List ByteArray} {K : List Ex} {j : Nat} {n : ByteArray} {k : Ex}, ns[j]? = some n → K[j]? = some k → Ex.boxIns B (ns.take (j + 1)) K = (Ex.boxIns B (ns.take j) K).set j (if B n then Ex.primE Ex.sBox [k] else k) ∧ (Ex.boxIns B (ns.take j) K)[j]? = some k
 | [], K, j, n, k, hn, hk => by simp at hn
 | m :: ns, [], j, n, k, hn, hk => by simp at hk
 | m :: ns, a :: K, 0, n, k, hn, hk => by
  simp at hn hk
  subst hn hk
  cases ns <;> exact ⟨rfl, rfl⟩
 | m :: ns, a :: K, j + 1, n, k, hn, hk => by
  obtain ⟨h1, h2⟩ := boxIns_step (B := B) (ns := ns) (K := K) (j := j) (by simpa using hn) (by simpa using hk)
  constructor
  ·show (if B m then Ex.primE Ex.sBox [a] else a) :: Ex.boxIns B (ns.take (j + 1)) K = _
   rw [h1]
   rfl
  ·exact h2
theorem set_same {M : List XM} {j : Nat} {q : XM} (h : M[j]? = some q) : (M.map (·.e)).set j q.e = M.map (·.e) := by
 obtain ⟨hj, e⟩ := List.getElem?_eq_some_iff.1 h
 apply List.ext_getElem?
 intro i
 rw [List.getElem?_set]
 split
 ·rename_i hi
  subst hi
  rw [if_pos (by simpa using hj), List.getElem?_map, h]
  rfl
 ·rfl
theorem own_frozen {w : World} {B ty g n c : Nat} {xs : List Value} (h : w.ownsRow B ty 8 (.slice (some ⟨g, 0, none⟩) n c) n xs) : ∀ o, w.frozen? ⟨g, o, none⟩ = false := by
 intro o
 obtain ⟨_, ⟨e1, _⟩ | ⟨g', cap, cur, e1, _, hg, _⟩⟩ := h
 ·cases e1
 ·cases e1
  exact frozen_of_row _ _ _ _ _ hg
theorem drew_at2 {w : World} {g : Nat} {o : Option Obj} (h : w.heap[g]? = o) : w.drew.heap[g]? = o := h
theorem GrS.more {R : Nat → Prop} {r : Nat} {a b d : World} {ρ0 ρ ρ' : Nat → Nat} (h : GrS R a ρ0 b ρ) (k : Gr r b ρ d ρ') (h0 : ∀ i, ρ0 i ≠ r) : GrS R a ρ0 d ρ' :=
 ⟨k.os.trans h.os, k.tape.trans h.tape, k.output.trans h.output, Nat.le_trans h.size k.size, fun i hi hc => (k.keep i (Nat.lt_of_lt_of_le hi h.size) (by rw [h.role i hi]; exact h0 i)).trans (h.keep i hi hc), fun i hi => (k.role i (Nat.lt_of_lt_of_le hi h.size)).trans (h.role i hi)⟩
section
variable {B : Nat} {e : Ex} {nv dl : Value} {w5 : World} {ρ0 : Nat → Nat} {ob : Nat} {wr : World} {ρ : Nat → Nat} {kv : Value} {M : List XM}
theorem Bx.other (h : Bx B e nv dl w5 ρ0 ob wr ρ kv M) {r : Nat} {w' : World} {ρ' : Nat → Nat} (k : Gr r wr ρ w' ρ') (hi : RI B w' ρ') (hr : r = 4 ∨ r = 5) (h0 : ∀ i, ρ0 i ≠ r) : Bx B e nv dl w5 ρ0 ob w' ρ' kv M :=
 ⟨(k.keep ob (Array.getElem?_eq_some_iff.1 h.blk).1 (by rw [h.ro]; omega)).trans h.blk, h.row.gr (by omega) (by omega) k, hi, h.gr.more k h0, (k.role ob (Array.getElem?_eq_some_iff.1 h.blk).1).trans h.ro⟩
end
structure By (B : Nat) (e : Ex) (nv dl : Value) (w5 : World) (ρ0 : Nat → Nat) (ob : Nat) (wr : World) (ρ : Nat → Nat) (kv : Value) (M : List XM) (vl vi : Value) (l : List ByteArray) (IX : List XM) : Prop where
 bx : Bx B e nv dl w5 ρ0 ob wr ρ kv M
 ls : RowR wr ρ 4 9 1 l.length vl (strs l)
 is : XR wr ρ 5 vi IX
 ie : IX.map (·.e) = l.map fun s => Ex.primE Ex.sBox [Ex.refE s]
section
variable {B : Nat} {e : Ex} {nv dl : Value} {w5 : World} {ρ0 : Nat → Nat} {ob : Nat} {wr : World} {ρ : Nat → Nat} {kv : Value} {M : List XM} {vl vi : Value} {l : List ByteArray} {IX : List XM}
theorem By.name (h : By B e nv dl w5 ρ0 ob wr ρ kv M vl vi l IX) (h0 : ∀ i, ρ0 i ≠ 4) {n : ByteArray} {w1 w2 : World} {v' : Value} (hb : Below wr.heap.size wr w1) (hown : w2.ownsRow 0 9 1 v' (l.length + 1) (strs l ++ [.string n])) (hg : w1.grownBy w2 vl.ownBlock) (hl : v'.ownBlock = vl.ownBlock ∨ v'.ownBlock = some w1.heap.size) :
  ∃ ρ', Bx B e nv dl w5 ρ0 ob w2 ρ' kv M ∧ RowR w2 ρ' 4 9 1 (l ++ [n]).length v' (strs (l ++ [n])) ∧ XR w2 ρ' 5 vi IX := by
 obtain ⟨ρ', k1, k2, k3⟩ := row_grow h.ls h.bx.ri (by decide) hb hown hg hl
 refine ⟨ρ', h.bx.other k2 k3 (.inl rfl) h0, ?_, h.is.gr (by decide) (by decide) k2⟩
 rw [List.length_append]
 unfold strs at k1 ⊢
 rw [List.map_append]
 exact k1
theorem by_box (h : Bx B e nv dl w5 ρ0 ob wr ρ kv M) (h4 : RowR wr ρ 4 9 1 l.length vl (strs l)) (h5 : XR wr ρ 5 vi IX) (h0 : ∀ i, ρ0 i ≠ 5) {y : XM} (hy : Free0 ρ wr (fun w => ExAt w y.val y.e)) {w1 w2 : World} {v' : Value} (hb : Below wr.heap.size wr w1) (hown : w2.ownsRow 0 28 8 v' (IX.length + 1) (flatX IX ++ y.cells)) (hg : w1.grownBy w2 vi.ownBlock) (hl : v'.ownBlock = vi.ownBlock ∨ v'.ownBlock = some w1.heap.size) (hie : (IX ++ [y]).map (·.e) = l.map fun s => Ex.primE Ex.sBox [Ex.refE s]) :
  ∃ ρ', By B e nv dl w5 ρ0 ob w2 ρ' kv M vl v' l (IX ++ [y]) := by
 obtain ⟨ρ', k1, k2, k3⟩ := h5.push (B := B) h.ri (by decide) hy hb hown hg hl
 exact ⟨ρ', h.other k2 k3 (.inr rfl) h0, RowR.gr h4 (by decide) k2, k1, hie⟩
end
theorem filter_step {B : ByteArray → Bool} {l : List ByteArray} {j : Nat} {n : ByteArray} (hn : l[j]? = some n) : (l.take (j + 1)).filter B = (l.take j).filter B ++ (if B n then [n] else []) := by
 rw [List.take_add_one, hn, List.filter_append]
 cases h : B n <;> simp [h]
def fre4 (ρ : Nat → Nat) : Nat → Nat := fun b => if ρ b = 4 then 0 else ρ b
theorem fre4_ne {ρ : Nat → Nat} {b : Nat} (h : ρ b ≠ 4) : fre4 ρ b = ρ b := if_neg h
theorem fre4_zero {ρ : Nat → Nat} {b : Nat} (h : ρ b = 0 ∨ ρ b = 4) : fre4 ρ b = 0 := by
 unfold fre4
 split
 ·rfl
 ·omega
section
variable {B : Nat} {e : Ex} {nv dl : Value} {w5 : World} {ρ0 : Nat → Nat} {ob : Nat} {wr : World} {ρ : Nat → Nat} {kv : Value} {M : List XM} {vl vi : Value} {l : List ByteArray} {IX : List XM}
theorem free4 {w : World} {P : World → Prop} (h : Free0 ρ w P) : Free0 (fre4 ρ) w P := h.mono fun b e _ => fre4_zero (.inl e)
theorem Bx.free4 (h : Bx B e nv dl w5 ρ0 ob wr ρ kv M) (h0 : ∀ i, ρ0 i ≠ 4) : Bx B e nv dl w5 ρ0 ob wr (fre4 ρ) kv M :=
 ⟨h.blk, ⟨⟨h.row.row.1, fun b e => (fre4_ne (by rw [h.row.row.2 b e]; decide)).trans (h.row.row.2 b e)⟩, fun x hx => Ew.free4 (h.row.els x hx)⟩, ⟨fun b hb => fre4_zero (.inl (h.ri.low b hb)), fun b hb => fre4_zero (.inl (h.ri.hi b hb)), h.ri.le⟩, ⟨h.gr.os, h.gr.tape, h.gr.output, h.gr.size, h.gr.keep, fun b hb => (fre4_ne (by rw [h.gr.role b hb]; exact h0 b)).trans (h.gr.role b hb)⟩, (fre4_ne (by rw [h.ro]; decide)).trans h.ro⟩
theorem let_free {q : XM} (h : By B e nv dl w5 ρ0 ob wr ρ kv [q] vl vi l IX) {w w' : World} {en : Ending} (hw : Below wr.heap.size wr w) (hs : wr.heap.size ≤ w.heap.size) (hp : LetPost l vl IX q w en w') :
  ∃ y : XM, y.e = Ex.letE l (l.map fun s => Ex.primE Ex.sBox [Ex.refE s]) q.e ∧ en = .returned y.val ∧ Sliced y ∧ Free0 (fre4 ρ) w' (fun w => ExAt w y.val y.e) ∧ Below w.heap.size w w' := by
 have hq := h.bx.row.els q (by simp)
 rcases hp with ⟨h1, rfl, hb⟩ | ⟨h1, g, c, rfl, hown, hb⟩
 ·refine ⟨q, ?_, rfl, sliced_at hq.at, Ew.free4 (hq.bel (hw.trans (hb.mono hs))), hb⟩
  rw [List.length_eq_zero_iff.1 h1]
  rfl
 ·have hb2 := hw.trans (hb.mono hs)
  have hn := On.names (S := fun b => fre4 ρ b = 0) (own_same (w' := w') h.ls.1 fun b e => hb2.block b (h.ls.1.lt b e).2) fun b e => fre4_zero (.inr (h.ls.2 b e))
  have hk := On.kids (S := fun b => fre4 ρ b = 0) (M := IX ++ [q]) (by rw [List.length_append]; exact hown) (fun b e => fre4_zero (.inl (h.bx.ri.hi b (Nat.le_trans hs (hown.lt b e).1)))) fun x hx => by
   simp only [List.mem_append, List.mem_singleton] at hx
   rcases hx with hx | rfl
   ·exact Ew.free4 ((h.is.els x hx).bel hb2)
   ·exact Ew.free4 (hq.bel hb2)
  rw [List.map_append, h.ie] at hk
  obtain ⟨la, lc, e1⟩ := RowR.slice h.ls
  refine ⟨⟨Ex.letE l (l.map fun s => Ex.primE Ex.sBox [Ex.refE s]) q.e, vl, .slice none 0 0, .slice (some ⟨g, 0, none⟩) (IX.length + 1) c⟩, rfl, ?_, ⟨⟨_, _, _, e1⟩, ⟨_, _, _, rfl⟩, ⟨_, _, _, rfl⟩⟩, ?_, hb⟩
  ·unfold Ex.letE
   rw [if_neg (by cases l with | nil => exact absurd rfl h1 | cons _ _ => exact Bool.false_ne_true)]
   rfl
  ·have hm := On.mk (k := 8) (n := ⟨#[]⟩) hn.1 On.zero hn.2 hk
   unfold Ex.letE
   rw [if_neg (by cases l with | nil => exact absurd rfl h1 | cons _ _ => exact Bool.false_ne_true)]
   exact hm
end
theorem at_app2 {P : Program} {ops : Array Oper} {o : Oper} {a : Act} {K : Act → World → Prop} {Q : Exit → Act → World → Prop} {E : Prop} (w : World) (s x : Operand) (t : TypeId)
  (_ : o.op = .call { callee := .builtin .append, args := #[s, x], argTypes := #[t, t] })
  (h : if Region.wanted o (yielded ops a.tmps) = true then Oper.wp P o a w K Q else E) : if Region.wanted o (yielded ops a.tmps) = true then Oper.wp P o a w K Q else E := h
set_option maxHeartbeats 64000000 in
theorem box_any (w0 : World) (e : Ex) : ∀ {w : World} {mb : Nat} {V : ByteArray → Int} {na : Option Addr} {nc : Nat} {da : Option Addr} {dn dc : Nat} {ka : Option Addr} {kc : Nat}, Few e → Ex.all Ex.form e = true → Op w0 e na nc da dn dc ka kc → Below w0.heap.size w0 w → IM w mb V →
  Calls Tryz.prog 37 #[.agg #[.int .i64 e.kind, .string e.name, .slice na e.names.length nc, .int .i64 e.const.kind, .int .i64 e.const.int, .string e.const.text, .slice da dn dc, .slice ka e.kids.length kc], .map (some mb)] w (MadePost w0.heap.size (Ex.boxE (BV V) e) w) := by
 induction e using Ex.byKids with
 | h e ih =>
 intro w mb V na nc da dn dc ka kc hf hfo ho hb hm
 obtain ⟨w1, B1⟩ := boxedE w e na nc da dn dc ka kc
 obtain ⟨w2, B2⟩ := boxed w1 #[.int .i64 0, .string ⟨#[]⟩, .slice none 0 0, .int .i64 0, .int .i64 0, .string ⟨#[]⟩, .slice none 0 0, .slice none 0 0] 28
 have hB02 : Below w.heap.size w w2 := B1.below.trans (B2.below.mono B1.below.size)
 have hsz2 : w2.heap.size = w.heap.size + 2 := by rw [B2.size, B1.size]
 have hZ : w2.heap[w.heap.size + 1]? = some (.cells #[.int .i64 0, .string ⟨#[]⟩, .slice none 0 0, .int .i64 0, .int .i64 0, .string ⟨#[]⟩, .slice none 0 0, .slice none 0 0] 28 (0, 0)) := by
  have := B2.blk
  rw [B1.size] at this
  exact this
 have hP := (B2.below.block _ (by rw [B1.size]; omega)).trans B1.blk
 have HBA := hid B1
 have HBB := hid B2
 have HZB := hid hZ
 have HPB := hid hP
 have HB02 := hid hB02
 have HS2 := hid hsz2
 have HIH := hid ih
 have HF := hid hf
 have HFO := hid hfo
 have HO := hid ho
 have HBW := hid hb
 have HB0 := hid (hb.trans (hB02.mono hb.size))
 have HM := hid (hm.bel hB02)
 have HCL := hid (clone_map mb V w2 HM.out)
 have HNL : Hid (e.names.length ≤ 1000000) := hf.nl
 have HLK : Hid (e.kids.length ≤ 100000) := hf.len
 obtain ⟨i0, hi0, hz0, hz1, hz2⟩ := info_parts infoExpr
 have HI := hid hi0
 obtain ⟨j0, hj0, hy0, hy1, hy2⟩ := info_parts infoStr
 have HJ0 := hid hj0
 have HY0 := hid hy0
 have HY1 := hid hy1
 have HY2 := hid hy2
 have HZ0 := hid hz0
 have HZ1 := hid hz1
 have HZ2 := hid hz2
 clear B1 B2 hB02 hsz2 hZ hP ih hf hfo ho hb hm hi0 hz0 hz1 hz2 hj0 hy0 hy1 hy2
 go_enter Tryz.func37, Tryz.ntmps37
 go_upto_region 1 with fail
 rw [← HBA.out.eq, ← HBB.out.eq]
 go_wp2_with fail
 with_reducible refine HCL.out.mono ?_
 rintro e2 w3 ⟨rfl, hi3, hb3⟩
 have HI3 := hid hi3
 have HB3 := hid hb3
 have hp3 := (hb3.block w.heap.size (by rw [HS2.out]; omega)).trans HPB.out
 obtain ⟨x0, x1, x2, x3, x4, x5, x6, x7, hbl⟩ := Row.of hp3
 clear hi3 hb3 hp3
 go_wp2_with fail
 go_loopg [23] e.names.length (fun g i wr => ∃ j : Nat, j ≤ e.names.length ∧ g = e.names.length - j ∧ i = .int .i64 j ∧ Below w2.heap.size w2 wr ∧ w2.heap.size < wr.heap.size ∧ IM wr w2.heap.size (upW e V j))
 case atStart => exact ⟨0, Nat.zero_le _, rfl, rfl, HB3.out, HI3.out.lt, by rw [upW_zero]; exact HI3.out⟩
 case round =>
  obtain ⟨j, hj, rfl, rfl, hb, hlt0, hi⟩ := hrel
  have HBR := hid hb
  have HLT := hid hlt0
  have HIR := hid hi
  have HPR := hid ((hb.block w.heap.size (by rw [HS2.out]; omega)).trans HPB.out)
  obtain ⟨x0, x1, x2, x3, x4, x5, x6, x7, hbl⟩ := Row.of HPR.out
  have HB0R : Hid (Below w0.heap.size w0 wr) := HB0.out.trans (hb.mono HB0.out.size)
  clear hb hlt0
  by_cases hlt : j < e.names.length
  ·obtain ⟨n, hn⟩ : ∃ n, e.names[j]? = some n := ⟨_, List.getElem?_eq_getElem hlt⟩
   have gw : IntKind.i64.wrap ((j : Int) + 1) = ((j + 1 : Nat) : Int) := by rw [IntKind.wrap_i64]; have := HNL.out; omega
   obtain ⟨nb, noff, hna, hnb, hnc⟩ := text_at (HO.out.bel HB0R.out).names hn
   have HN := hid hn
   subst hna
   obtain ⟨L, ha, hv⟩ := hi
   have HA := hid ha
   have HV := hid hv
   clear hn ha hv HIR
   go_upto_region 6 with (first
    | (at_mapUpdate; refine wpList_update_amap rfl (.tmp 27) (.tmp 28) (.const (.int .i64 0)) rfl (keyOk_string Tryz.underlying9) Tryz.underlying55 HA.out rfl n (.int .i64 0) rfl rfl ?_; intro w4 hm4 hg4; have HM4 := hid hm4; have HB4 := hid (grown_bel HBR.out hg4 (Nat.le_refl _) HBR.out.size); clear hm4 hg4)
    | fail)
   have hp4 := (HB4.out.block w.heap.size (by rw [HS2.out]; omega)).trans HPB.out
   have HB04 : Hid (Below w0.heap.size w0 w4) := HB0.out.trans (HB4.out.mono HB0.out.size)
   have HAS := hid (pasg_any n e HF.out (HO.out.bel HB04.out))
   clear x0 x1 x2 x3 x4 x5 x6 x7 hbl hnc hnb
   obtain ⟨x0, x1, x2, x3, x4, x5, x6, x7, hbl⟩ := Row.of hp4
   clear hp4
   go_wp2_with fail
   with_reducible refine HAS.out.mono ?_
   rintro e2 w5 ⟨rfl, hb5⟩
   have HB5 := hid (HB4.out.trans (hb5.mono HB4.out.size))
   have HM5 := hid (HM4.out.below hb5 HM4.out.lt)
   clear hb5
   cases has : Ex.assigned e n with
   | true =>
    have HAS2 : Hid ((if Ex.assigned e n then (1 : Int) else 0) = 1) := by unfold Hid; rw [has]; rfl
    clear has
    go_wp2_with (first
     | (at_mapUpdate; refine wpList_update_amap rfl (.tmp 32) (.tmp 33) (.const (.int .i64 1)) rfl (keyOk_string Tryz.underlying9) Tryz.underlying55 HM5.out rfl n (.int .i64 1) rfl rfl ?_; intro w6 hm6 hg6; have HM6 := hid hm6; have HB6 := hid (grown_bel HB5.out hg6 (Nat.le_refl _) HB5.out.size); clear hm6 hg6)
     | fail)
    have HI6 : Hid (IM w6 w2.heap.size (upW e V (j + 1))) := by
     have h := im_of (im_put HV.out n 0) HM6.out
     rw [setV_twice] at h
     rw [← upW_step HN.out, HAS2.out]
     exact h
    go_roundg (e.names.length - (j + 1))
    case measure => omega
    case rel => exact ⟨j + 1, by omega, rfl, by go_num, HB6.out, HI6.out.lt, HI6.out⟩
   | false =>
    have HAS2 : Hid ((if Ex.assigned e n then (1 : Int) else 0) = 0) := by unfold Hid; rw [has]; rfl
    have HI6 : Hid (IM w5 w2.heap.size (upW e V (j + 1))) := by
     have h := im_of HV.out HM5.out
     rw [← upW_step HN.out, HAS2.out]
     exact h
    clear has
    go_wp2_with fail
    go_roundg (e.names.length - (j + 1))
    case measure => omega
    case rel => exact ⟨j + 1, by omega, rfl, by go_num, HB5.out, HI6.out.lt, HI6.out⟩
  ·obtain rfl : j = e.names.length := by omega
   have hge : ¬ ((e.names.length : Int) < (e.names.length : Int)) := by omega
   obtain ⟨wk, hwk⟩ : ∃ z, z = wr := ⟨_, rfl⟩
   subst hwk
   have HMK := hid (HM.out.bel HBR.out)
   obtain ⟨w5, B5⟩ := boxed wk #[.int .i64 e.kind, .string e.name, .slice na e.names.length nc, .int .i64 e.const.kind, .int .i64 e.const.int, .string e.const.text, .slice da dn dc, .slice none 0 0] 28
   have HB5 := hid B5
   clear hi hlt hj B5
   obtain ⟨ρ0, hρ0⟩ : ∃ ρ0 : Nat → Nat, ρ0 = fun b => if b < w0.heap.size then 0 else if b < w.heap.size then 8 else if b < wk.heap.size then 9 else if b = wk.heap.size then 1 else 0 := ⟨_, rfl⟩
   have hl0 := HBW.out.size
   have hs2 := HS2.out
   have hs2k := HBR.out.size
   have hs5 : w5.heap.size = wk.heap.size + 1 := HB5.out.size
   have r0 : ∀ b, b < w0.heap.size → ρ0 b = 0 := fun b hb => by subst hρ0; exact if_pos hb
   have r8 : ∀ b, w0.heap.size ≤ b → b < w.heap.size → ρ0 b = 8 := fun b h1 h2 => by subst hρ0; show (if _ then _ else _) = _; rw [if_neg (by omega), if_pos h2]
   have r9 : ∀ b, w.heap.size ≤ b → b < wk.heap.size → ρ0 b = 9 := fun b h1 h2 => by subst hρ0; show (if _ then _ else _) = _; rw [if_neg (by omega), if_neg (by omega), if_pos h2]
   have r1 : ρ0 wk.heap.size = 1 := by subst hρ0; show (if _ then _ else _) = _; rw [if_neg (by omega), if_neg (by omega), if_neg (by omega), if_pos rfl]
   have rh : ∀ b, w5.heap.size ≤ b → ρ0 b = 0 := fun b hb => by subst hρ0; show (if _ then _ else _) = _; rw [if_neg (by omega), if_neg (by omega), if_neg (by omega), if_neg (by omega)]
   have h45 : ∀ b, ρ0 b ≠ 4 ∧ ρ0 b ≠ 5 := fun b => by
    subst hρ0
    show (if _ then _ else _) ≠ _ ∧ (if _ then _ else _) ≠ _
    split
    ·decide
    ·split
     ·decide
     ·split
      ·decide
      ·split <;> decide
   have H45 := hid h45
   have hbx : Bx w0.heap.size e (.slice na e.names.length nc) (.slice da dn dc) w5 ρ0 wk.heap.size w5 ρ0 (.slice none 0 0) [] := ⟨HB5.out.blk, XR.none _ _ _, ⟨r0, rh, by omega⟩, GrS.of_bel (Below.refl _ _), r1⟩
   have hlow : ∀ b, b < wk.heap.size → ρ0 b ≠ 1 ∧ ρ0 b ≠ 2 := fun b hb => by
    by_cases h1 : b < w0.heap.size
    ·rw [r0 b h1]; decide
    ·by_cases h2 : b < w.heap.size
     ·rw [r8 b (by omega) h2]; decide
     ·rw [r9 b (by omega) hb]; decide
   have HLOW := hid hlow
   have HR0 := hid r0
   have HR8 := hid r8
   have HR9 := hid r9
   have HS5 := hid hs5
   have HBX0 := hid hbx
   have HPK := hid HPR.out
   have HL2 := hid (show w.heap.size + 2 ≤ wk.heap.size by omega)
   have HB0K := hid HB0R.out
   obtain ⟨K, hK⟩ : ∃ K, Ex.boxL (BV V) (Ex.innerB e (BV V)) e.kind e.kids.length 0 e.kids = K := ⟨_, rfl⟩
   have HKK := hid hK
   have hp5 := (HB5.out.below.block w.heap.size (by omega)).trans HPR.out
   clear hρ0 hl0 hs2 hs2k hs5 r0 r8 r9 r1 rh hbx hlow hK h45
   go_upto_region 11 with fail
   rw [← HB5.out.eq]
   clear x0 x1 x2 x3 x4 x5 x6 x7 hbl
   obtain ⟨x0, x1, x2, x3, x4, x5, x6, x7, hbl⟩ := Row.of hp5
   clear hp5
   go_wp2_with fail
   go_loopg [40] e.kids.length (fun g i wr => ∃ (j : Nat) (ρ : Nat → Nat) (kv : Value) (M : List XM), j ≤ e.kids.length ∧ g = e.kids.length - j ∧ i = .int .i64 j ∧ Bx w0.heap.size e (.slice na e.names.length nc) (.slice da dn dc) w5 ρ0 wk.heap.size wr ρ kv M ∧ M.map (·.e) = K.take j)
   case atStart => exact ⟨0, ρ0, _, [], Nat.zero_le _, rfl, rfl, HBX0.out, rfl⟩
   case round =>
    obtain ⟨j, ρ, kv, M, hj, rfl, rfl, hx, hes⟩ := hrel
    have HX := hid hx
    have HES := hid hes
    have HBKR : Hid (Below wk.heap.size wk wr) := HB5.out.below.trans (hx.below HLOW.out (by rw [HS5.out]; omega))
    have HB0R : Hid (Below w0.heap.size w0 wr) := HB0K.out.trans (HBKR.out.mono HB0K.out.size)
    have hpr := (HBKR.out.block w.heap.size (by have := HL2.out; omega)).trans HPK.out
    have hkl : K.length = e.kids.length := by rw [← HKK.out, Ex.boxL_length]
    have hml : M.length = j := by
     have := congrArg List.length hes
     rw [List.length_map, List.length_take] at this
     omega
    have HML : Hid (M.length ≤ 100000) := by have := HLK.out; unfold Hid; omega
    have HMJ := hid hml
    have hob : wr.cell? ⟨wk.heap.size, 7, none⟩ = some kv := cell_of_row _ _ 7 _ _ _ hx.blk
    have hobl := (Array.getElem?_eq_some_iff.1 hx.blk).1
    obtain ⟨x0, x1, x2, x3, x4, x5, x6, x7, hbl⟩ := Row.of hpr
    clear hx hes hpr hml
    by_cases hlt : j < e.kids.length
    ·obtain ⟨x, hx⟩ : ∃ x, e.kids[j]? = some x := ⟨_, List.getElem?_eq_getElem hlt⟩
     have HKX := hid hx
     have HKJ : Hid (K[j]? = some (Ex.boxE (if Ex.binds e.kind e.kids.length j then Ex.innerB e (BV V) else BV V) x)) := by
      unfold Hid
      rw [← HKK.out, Ex.boxL_at, hx, Nat.zero_add]
      rfl
     have gw : IntKind.i64.wrap ((j : Int) + 1) = ((j + 1 : Nat) : Int) := by rw [IntKind.wrap_i64]; have := HLK.out; omega
     have HJ : Hid (j ≤ 100000) := by have := HLK.out; unfold Hid; omega
     obtain ⟨kb, koff, na2, nc2, da2, dn2, dc2, ya2, yc2, hk0⟩ := HO.out.kid hx
     have HKO := hid hk0.op
     obtain ⟨e1, hkb, ⟨g1, g2⟩, _, c0, c1, c2, c3, c4, c5, c6, c7⟩ := hk0.bel HB0R.out
     subst e1
     obtain ⟨w6, B6⟩ := boxedE wr x na2 nc2 da2 dn2 dc2 ya2 yc2
     have HB6 := hid B6
     clear hx hk0 B6 hkl
     go_upto_region 14 with fail
     rw [← HB6.out.eq]
     have HB06 : Hid (Below w0.heap.size w0 w6) := HB0R.out.trans (HB6.out.below.mono HB0R.out.size)
     have HPC := hid (pbinds_any j HJ.out e HLK.out (HO.out.bel HB06.out))
     have hpr6 := ((HBKR.out.trans (HB6.out.below.mono HBKR.out.size)).block w.heap.size (by have := HL2.out; omega)).trans HPK.out
     have hob6 : w6.cell? ⟨wk.heap.size, 7, none⟩ = some kv := (HB6.out.below.cell (p := ⟨wk.heap.size, 7, none⟩) hobl).trans hob
     clear c0 c1 c2 c3 c4 c5 c6 c7 x0 x1 x2 x3 x4 x5 x6 x7 hbl hob
     obtain ⟨x0, x1, x2, x3, x4, x5, x6, x7, hbl⟩ := Row.of hpr6
     clear hpr6
     go_wp2_with fail
     with_reducible refine HPC.out.mono ?_
     rintro e2 w7 ⟨rfl, hb7⟩
     have HW7 : Hid (Below wr.heap.size wr w7.drew) := (HB6.out.below.trans (hb7.mono HB6.out.below.size)).drew
     have HB07 : Hid (Below w0.heap.size w0 w7.drew) := HB0R.out.trans (HW7.out.mono HB0R.out.size)
     have HWK7 : Hid (Below wk.heap.size wk w7.drew) := HBKR.out.trans (HW7.out.mono HBKR.out.size)
     have HX7 := hid (HX.out.bel HW7.out)
     obtain ⟨v0, v1, v2, v3, v4, v5, v6, v7, vbl⟩ := ((Row.of HB6.out.blk).bel hb7).bel (Below.refl _ _).drew
     have hob7 : w7.drew.cell? ⟨wk.heap.size, 7, none⟩ = some kv := cell_of_row _ _ 7 _ _ _ HX7.out.blk
     have hol7 := (Array.getElem?_eq_some_iff.1 HX7.out.blk).1
     clear x0 x1 x2 x3 x4 x5 x6 x7 hbl hb7 hob6 hobl
     cases hbd : Ex.binds e.kind e.kids.length j with
      | false =>
       have HBD := hid hbd
       clear hbd
       have HC := hid (HIH.out x (List.mem_of_getElem? HKX.out) (HF.out.kid (List.mem_of_getElem? HKX.out)) (all_kid HFO.out (List.mem_of_getElem? HKX.out)) HKO.out HB07.out (HMK.out.bel HWK7.out))
       unfold MadePost at HC
       go_upto_region 17 with fail
       go_region_law (first
        | ((with_reducible refine at_app2 (w8.alloc (.cells #[.int .i64 ye.kind, .string ye.name, .slice yan ynn ycn, .int .i64 ye.const.kind, .int .i64 ye.const.int, .string ye.const.text, .slice yad ynd ycd, .slice yak ynk yck] 28)) (.tmp 51) (.tmp 55) 26 ?_ ?_); (· rfl); refine step_append_v (by rfl) (.tmp 51) (.tmp 55) 26 (by rfl) 0 28 i0 _ 8 128 Tryz.underlying26 HI.out HZ0.out HZ1.out HZ2.out rfl (by decide) kv M.length (flatX M) (by rfl) HAP.out.own (some ⟨w8.heap.size, 0, none⟩) 1 1 (XM.cells (⟨ye, .slice yan ynn ycn, .slice yad ynd ycd, .slice yak ynk yck⟩ : XM)) (by rfl) HAP.out.len (.inr ⟨_, rfl, HAP.out.src⟩) HAP.out.one (by have := HML.out; simp only [maxLen]; omega) (by have := HML.out; omega) (Nat.zero_le _) (w8.heap.size + 1) HAP.out.size ?_; intro av9 cv9 w9 hown hgr hlb; have hob9 := HX8.out.obk ((Below.refl _ _).alloc (Nat.le_refl _) _) hgr; have s7 : w9.cell? ⟨wk.heap.size, 7, none⟩ = some kv := cell_of_row _ wk.heap.size 7 _ _ _ hob9; have q7 : w9.frozen? ⟨wk.heap.size, 7, none⟩ = false := frozen_row8 hob9; have sbl := (Array.getElem?_eq_some_iff.1 hob9).1; have HOW := hid hown; have HGR := hid hgr; have HLB := hid hlb; clear hown hgr hlb hob9)
        | (go_simp; go_wp2_with (first | (go_at_call 37; (with_reducible refine HC.out.mono ?_); rintro e2 w8 ⟨⟨ye, ynv, ydl, ykv⟩, hye, rfl, hon, hb8⟩; obtain ⟨⟨yan, ynn, ycn, t1⟩, ⟨yad, ynd, ycd, t2⟩, ⟨yak, ynk, yck, t3⟩⟩ := ExAt.slices hon.at; dsimp only at t1 t2 t3 hye hon; subst t1 t2 t3; unfold XM.val exV; dsimp only; have HYE := hid hye; have HX8 := hid (HX7.out.bel hb8); have hob8 : w8.cell? ⟨wk.heap.size, 7, none⟩ = some kv := cell_of_row _ _ 7 _ _ _ HX8.out.blk; have hol8 := (Array.getElem?_eq_some_iff.1 HX8.out.blk).1; have HAP := hid (appX HX8.out.row (Below.refl _ _) (⟨ye, .slice yan ynn ycn, .slice yad ynd ycd, .slice yak ynk yck⟩ : XM) ⟨_, _, _, rfl⟩ ⟨_, _, _, rfl⟩ ⟨_, _, _, rfl⟩); have HON := hid (made_free hon (HX7.out.ri) |>.imp fun _ h => h); clear hon hb8 hye) | fail))
        | fail)
       all_goals
        obtain ⟨ρ', hn⟩ := HX8.out.next (y := (⟨ye, .slice yan ynn ycn, .slice yad ynd ycd, .slice yak ynk yck⟩ : XM)) HON.out ((Below.refl _ _).alloc (Nat.le_refl _) _) HOW.out HGR.out (by rcases HLB.out with h | h; exact .inl h; exact .inr (by simpa using h))
        have HN := hid hn
        clear hn
        go_wp2_with fail
        go_roundg (e.kids.length - (j + 1))
        case measure => omega
        case rel => exact ⟨j + 1, ρ', _, _, by omega, rfl, by go_num, HN.out, by
         rw [List.map_append, HES.out, List.take_add_one, HKJ.out, HBD.out]
         show _ ++ [ye] = _
         rw [HYE.out]
         rfl⟩
      | true =>
       have HBD := hid hbd
       clear hbd
       have HC := hid (HIH.out x (List.mem_of_getElem? HKX.out) (HF.out.kid (List.mem_of_getElem? HKX.out)) (all_kid HFO.out (List.mem_of_getElem? HKX.out)) HKO.out HB07.out (HIR.out.bel HWK7.out))
       unfold MadePost at HC
       go_upto_region 17 with fail
       go_region_law (first
        | ((with_reducible refine at_app2 (w8.alloc (.cells #[.int .i64 ye.kind, .string ye.name, .slice yan ynn ycn, .int .i64 ye.const.kind, .int .i64 ye.const.int, .string ye.const.text, .slice yad ynd ycd, .slice yak ynk yck] 28)) (.tmp 51) (.tmp 55) 26 ?_ ?_); (· rfl); refine step_append_v (by rfl) (.tmp 51) (.tmp 55) 26 (by rfl) 0 28 i0 _ 8 128 Tryz.underlying26 HI.out HZ0.out HZ1.out HZ2.out rfl (by decide) kv M.length (flatX M) (by rfl) HAP.out.own (some ⟨w8.heap.size, 0, none⟩) 1 1 (XM.cells (⟨ye, .slice yan ynn ycn, .slice yad ynd ycd, .slice yak ynk yck⟩ : XM)) (by rfl) HAP.out.len (.inr ⟨_, rfl, HAP.out.src⟩) HAP.out.one (by have := HML.out; simp only [maxLen]; omega) (by have := HML.out; omega) (Nat.zero_le _) (w8.heap.size + 1) HAP.out.size ?_; intro av9 cv9 w9 hown hgr hlb; have hob9 := HX8.out.obk ((Below.refl _ _).alloc (Nat.le_refl _) _) hgr; have s7 : w9.cell? ⟨wk.heap.size, 7, none⟩ = some kv := cell_of_row _ wk.heap.size 7 _ _ _ hob9; have q7 : w9.frozen? ⟨wk.heap.size, 7, none⟩ = false := frozen_row8 hob9; have sbl := (Array.getElem?_eq_some_iff.1 hob9).1; have HOW := hid hown; have HGR := hid hgr; have HLB := hid hlb; clear hown hgr hlb hob9)
        | (go_simp; go_wp2_with (first | (go_at_call 37; (with_reducible refine HC.out.mono ?_); rintro e2 w8 ⟨⟨ye, ynv, ydl, ykv⟩, hye, rfl, hon, hb8⟩; obtain ⟨⟨yan, ynn, ycn, t1⟩, ⟨yad, ynd, ycd, t2⟩, ⟨yak, ynk, yck, t3⟩⟩ := ExAt.slices hon.at; dsimp only at t1 t2 t3 hye hon; subst t1 t2 t3; unfold XM.val exV; dsimp only; have HYE := hid hye; have HX8 := hid (HX7.out.bel hb8); have hob8 : w8.cell? ⟨wk.heap.size, 7, none⟩ = some kv := cell_of_row _ _ 7 _ _ _ HX8.out.blk; have hol8 := (Array.getElem?_eq_some_iff.1 HX8.out.blk).1; have HAP := hid (appX HX8.out.row (Below.refl _ _) (⟨ye, .slice yan ynn ycn, .slice yad ynd ycd, .slice yak ynk yck⟩ : XM) ⟨_, _, _, rfl⟩ ⟨_, _, _, rfl⟩ ⟨_, _, _, rfl⟩); have HON := hid (made_free hon (HX7.out.ri) |>.imp fun _ h => h); clear hon hb8 hye) | fail))
        | fail)
       all_goals
        obtain ⟨ρ', hn⟩ := HX8.out.next (y := (⟨ye, .slice yan ynn ycn, .slice yad ynd ycd, .slice yak ynk yck⟩ : XM)) HON.out ((Below.refl _ _).alloc (Nat.le_refl _) _) HOW.out HGR.out (by rcases HLB.out with h | h; exact .inl h; exact .inr (by simpa using h))
        have HN := hid hn
        clear hn
        go_wp2_with fail
        go_roundg (e.kids.length - (j + 1))
        case measure => omega
        case rel => exact ⟨j + 1, ρ', _, _, by omega, rfl, by go_num, HN.out, by
         rw [List.map_append, HES.out, List.take_add_one, HKJ.out, HBD.out]
         show _ ++ [ye] = _
         rw [HYE.out]
         rw [upW_end]; rfl⟩
    ·obtain rfl : j = e.kids.length := by omega
     have hge : ¬ ((e.kids.length : Int) < (e.kids.length : Int)) := by omega
     have hes2 := HES.out
     rw [show e.kids.length = K.length from hkl.symm, List.take_length] at hes2
     have HE2 := hid hes2
     obtain ⟨ak, ck, hak⟩ := XR.slice HX.out.row
     subst hak
     have HEQ : Hid (Ex.boxE (BV V) e = Ex.boxK (BV V) (Ex.innerB e (BV V)) e.kind e.name e.names e.const K) := by unfold Hid; rw [Ex.boxE_eq, HKK.out]
     have hrz : ρ (w.heap.size + 1) = 9 := (HX.out.gr.role _ (by have := HL2.out; have := HS5.out; omega)).trans (HR9.out _ (by omega) (by have := HL2.out; omega))
     have HRZ := hid hrz
     have HR8R : Hid (∀ b, w0.heap.size ≤ b → b < w.heap.size → ρ b = 8) := fun b h1 h2 => (HX.out.gr.role b (by have := HL2.out; have := HS5.out; omega)).trans (HR8.out b h1 h2)
     have hzr := ((HBKR.out.block (w.heap.size + 1) (by have := HL2.out; omega)).trans (HBR.out.block (w.heap.size + 1) (by rw [HS2.out]; omega))).trans HZB.out
     have HZR := hid hzr
     have HBWR : Hid (Below w.heap.size w wr) := (HB02.out.trans (HBR.out.mono HB02.out.size)).trans (HBKR.out.mono (Nat.le_trans HB02.out.size HBR.out.size))
     have HBASE := hid (HX.out.base HO.out HB0R.out rfl)
     rw [HE2.out] at HBASE
     obtain ⟨⟨_, s0⟩, ⟨_, s1⟩, ⟨_, s2⟩, ⟨_, s3⟩, ⟨_, s4⟩, ⟨_, s5⟩, ⟨_, s6⟩, ⟨_, s7⟩, q0, q1, q2, q3, q4, q5, q6, q7, sbl⟩ := blk8 hzr
     obtain ⟨o0, o1, o2, o3, o4, o5, o6, o7, obl⟩ := Row.of HX.out.blk
     have HMR := hid (HMK.out.bel HBKR.out)
     have HIM := hid (HIR.out.bel HBKR.out)
     have hlk := HMR.out.look e.name
     clear hes2 hrz hzr hkl hlt hj
     by_cases k1 : e.kind = 1
     ·have p1 : (e.kind == 1) = true := by rw [k1]; rfl
      by_cases hv : V e.name = 1
      ·have pv : (V e.name == 1) = true := by rw [hv]; rfl
       have HQ : Hid (Ex.boxE (BV V) e = Ex.primE Ex.sUnbox [.mk e.kind e.name e.names e.const K]) := by unfold Hid; rw [HEQ.out]; unfold Ex.boxK; rw [if_pos k1, if_pos (by unfold BV; exact decide_eq_true hv)]
       have HPM := hid (prim_any' ⟨#[37, 117, 110, 98, 111, 120]⟩ (some ⟨wr.heap.size, 0, none⟩) 1 1)
       clear k1 hv
       go_wp2_with fail
       with_reducible refine (HPM.out _).mono ?_
       rintro e2 w8 ⟨rfl, hb8⟩
       have hbA : Below wr.heap.size wr (wr.alloc (.cells #[.int .i64 e.kind, .string e.name, .slice na e.names.length nc, .int .i64 e.const.kind, .int .i64 e.const.int, .string e.const.text, .slice da dn dc, .slice ak M.length ck] 28)) := (Below.refl _ _).alloc (Nat.le_refl _) _
       have hb8r := hbA.trans (hb8.mono hbA.size)
       have HZ8 := hid ((hb8r.block _ (Array.getElem?_eq_some_iff.1 HZR.out).1).trans HZR.out)
       have HON := hid (prim1_on (x := ⟨.mk e.kind e.name e.names e.const K, .slice na e.names.length nc, .slice da dn dc, .slice ak M.length ck⟩) Ex.sUnbox (heap_alloc_new wr _) (.inl (HX.out.ri.hi _ (Nat.le_refl _))) (HBASE.out.bel hbA))
       have HB8 := hid hb8
       have HBW8 := hid (HBWR.out.trans (hb8r.mono HBWR.out.size))
       clear s0 s1 s2 s3 s4 s5 s6 s7 q0 q1 q2 q3 q4 q5 q6 q7 sbl hbA hb8r hb8
       obtain ⟨⟨_, s0⟩, ⟨_, s1⟩, ⟨_, s2⟩, ⟨_, s3⟩, ⟨_, s4⟩, ⟨_, s5⟩, ⟨_, s6⟩, ⟨_, s7⟩, q0, q1, q2, q3, q4, q5, q6, q7, sbl⟩ := blk8 HZ8.out
       go_wp2_with fail
       refine bodyPost_ret (res1 rfl _ _ (w.heap.size + 1) 28 #[.int .i64 7, .string ⟨#[37, 117, 110, 98, 111, 120]⟩, .slice none 0 0, .int .i64 0, .int .i64 0, .string ⟨#[]⟩, .slice none 0 0, .slice (some ⟨wr.heap.size, 0, none⟩) 1 1] (0, 0) rfl (eight_set _ _ _ _ _ _ _ _ _ _ _ (.int .i64 7) (.string ⟨#[37, 117, 110, 98, 111, 120]⟩) (.slice none 0 0) (.int .i64 0) (.int .i64 0) (.string ⟨#[]⟩) (.slice none 0 0) (.slice (some ⟨wr.heap.size, 0, none⟩) 1 1) HZ8.out) exprD exprSize) rfl ?_
       show MadePost w0.heap.size (Ex.boxE (BV V) e) w _ (put8 w8 (w.heap.size + 1) (.int .i64 7) (.string ⟨#[37, 117, 110, 98, 111, 120]⟩) (.slice none 0 0) (.int .i64 0) (.int .i64 0) (.string ⟨#[]⟩) (.slice none 0 0) (.slice (some ⟨wr.heap.size, 0, none⟩) 1 1))
       have hon := made_box (z := w.heap.size + 1) HBW.out.size HON.out HB8.out HR8R.out HRZ.out (.int .i64 7) (.string ⟨#[37, 117, 110, 98, 111, 120]⟩) (.slice none 0 0) (.int .i64 0) (.int .i64 0) (.string ⟨#[]⟩) (.slice none 0 0) (.slice (some ⟨wr.heap.size, 0, none⟩) 1 1)
       have hbw := below_put8 (g := w.heap.size + 1) HBW8.out (Nat.le_succ _) (.int .i64 7) (.string ⟨#[37, 117, 110, 98, 111, 120]⟩) (.slice none 0 0) (.int .i64 0) (.int .i64 0) (.string ⟨#[]⟩) (.slice none 0 0) (.slice (some ⟨wr.heap.size, 0, none⟩) 1 1)
       unfold MadePost
       with_reducible refine ⟨⟨Ex.primE Ex.sUnbox [.mk e.kind e.name e.names e.const K], .slice none 0 0, .slice none 0 0, .slice (some ⟨wr.heap.size, 0, none⟩) 1 1⟩, HQ.out.symm, ?_, ?_, hbw⟩
       ·rfl
       ·exact hon
      ·have pv : (V e.name == 1) = false := beq_eq_false_iff_ne.2 hv
       have HQ : Hid (Ex.boxE (BV V) e = .mk e.kind e.name e.names e.const K) := by unfold Hid; rw [HEQ.out]; unfold Ex.boxK; rw [if_pos k1, if_neg (by unfold BV; simpa using hv)]
       clear k1 hv
       go_wp2_with fail
       refine bodyPost_ret (res1 rfl _ _ (w.heap.size + 1) 28 #[.int .i64 e.kind, .string e.name, .slice na e.names.length nc, .int .i64 e.const.kind, .int .i64 e.const.int, .string e.const.text, .slice da dn dc, .slice ak M.length ck] (0, 0) rfl (eight_set _ _ _ _ _ _ _ _ _ _ _ (.int .i64 e.kind) (.string e.name) (.slice na e.names.length nc) (.int .i64 e.const.kind) (.int .i64 e.const.int) (.string e.const.text) (.slice da dn dc) (.slice ak M.length ck) HZR.out) exprD exprSize) rfl ?_
       show MadePost w0.heap.size (Ex.boxE (BV V) e) w _ (put8 wr (w.heap.size + 1) (.int .i64 e.kind) (.string e.name) (.slice na e.names.length nc) (.int .i64 e.const.kind) (.int .i64 e.const.int) (.string e.const.text) (.slice da dn dc) (.slice ak M.length ck))
       have hon := made_box (z := w.heap.size + 1) HBW.out.size HBASE.out (Below.refl _ _) HR8R.out HRZ.out (.int .i64 e.kind) (.string e.name) (.slice na e.names.length nc) (.int .i64 e.const.kind) (.int .i64 e.const.int) (.string e.const.text) (.slice da dn dc) (.slice ak M.length ck)
       have hbw := below_put8 (g := w.heap.size + 1) HBWR.out (Nat.le_succ _) (.int .i64 e.kind) (.string e.name) (.slice na e.names.length nc) (.int .i64 e.const.kind) (.int .i64 e.const.int) (.string e.const.text) (.slice da dn dc) (.slice ak M.length ck)
       unfold MadePost
       with_reducible refine ⟨⟨.mk e.kind e.name e.names e.const K, .slice na e.names.length nc, .slice da dn dc, .slice ak M.length ck⟩, HQ.out.symm, ?_, ?_, hbw⟩
       ·rfl
       ·exact hon
     ·have p1 : (e.kind == 1) = false := beq_eq_false_iff_ne.2 k1
      by_cases k2 : e.kind = 2
      ·have p2 : (e.kind == 2) = true := by rw [k2]; rfl
       have hk1 : e.kids.length = 1 := form_one ((Ex.all_iff Ex.form e).1 HFO.out).1 k2
       have hkl : K.length = 1 := by rw [← HKK.out, Ex.boxL_length]; exact hk1
       have hml : M.length = 1 := HMJ.out.trans hk1
       obtain ⟨qm, hqm⟩ := List.length_eq_one_iff.1 hml
       subst hqm
       have hqf := HX.out.row.els qm (by simp)
       obtain ⟨⟨qan, qnn, qcn, t1⟩, ⟨qad, qnd, qcd, t2⟩, ⟨qak, qnk, qck, t3⟩⟩ := ExAt.slices hqf.at
       obtain ⟨qe, qnv, qdl, qkv⟩ := qm
       dsimp only at t1 t2 t3 hqf
       subst t1 t2 t3
       have HQE : Hid (K = [qe]) := HE2.out.symm
       have HQ : Hid (Ex.boxE (BV V) e = Ex.primE Ex.sSetBox [Ex.refE e.name, qe]) := by unfold Hid; rw [HEQ.out, HQE.out]; unfold Ex.boxK; rw [if_neg k1, if_pos k2]; rfl
       have HQF := hid hqf
       obtain ⟨g, hag⟩ : ∃ g, ak = some ⟨g, 0, none⟩ := by
        obtain ⟨g, c, e⟩ := own_ne (n := 0) HX.out.row.row.1
        exact ⟨g, (Value.slice.inj e).1⟩
       subst hag
       have hrc := rowC HX.out.row.row.1 (i := 0) (x := (⟨qe, .slice qan qnn qcn, .slice qad qnd qcd, .slice qak qnk qck⟩ : XM)) rfl
       rw [Nat.zero_mul] at hrc
       have HRC := hid hrc
       have hgl := (HX.out.row.row.1.lt g rfl).2
       have hge2 : (HX.out.row.row.2 g rfl) = (HX.out.row.row.2 g rfl) := rfl
       have HGZ : Hid (g ≠ w.heap.size + 1) := fun e => by have h := HX.out.row.row.2 g rfl; rw [e, HRZ.out] at h; cases h
       have HOZ : Hid (wk.heap.size ≠ w.heap.size + 1) := by have := HL2.out; unfold Hid; omega
       have HS24 := hid (show S24 wr wr (w.heap.size + 1) w.heap.size wk.heap.size g e.name (.slice (some ⟨g, 0, none⟩) 1 ck) (⟨qe, .slice qan qnn qcn, .slice qad qnd qcd, .slice qak qnk qck⟩ : XM) from ⟨⟨fun _ _ _ => rfl, Nat.le_refl _⟩, x1, o7, hrc.c0, hrc.c1, hrc.c2, hrc.c3, hrc.c4, hrc.c5, hrc.c6, hrc.c7⟩)
       clear k1 k2 hk1 hkl hml hqf hrc hlk
       clear hge2
       go_upto_region 24 with fail
       have HK0 : Hid (Kz wr wr.drew (w.heap.size + 1)) := ⟨fun _ _ _ => rfl, Nat.le_refl _⟩
       clear s0 s1 s2 s3 s4 s5 s6 s7 q0 q1 q2 q3 q4 q5 q6 q7 sbl x0 x1 x2 x3 x4 x5 x6 x7 hbl o0 o1 o2 o3 o4 o5 o6 o7 obl
       go_region_held3 (fun W => S24 wr W (w.heap.size + 1) w.heap.size wk.heap.size g e.name (.slice (some ⟨g, 0, none⟩) 1 ck) (⟨qe, .slice qan qnn qcn, .slice qad qnd qcd, .slice qak qnk qck⟩ : XM))
        ((refine s24 HS24.out (by omega) HOZ.out HGZ.out ?_; (first
         | with_reducible exact Kz.set8 HK9.out _ _ _ _ _ _ _ _
         | with_reducible exact HK0.out
         | with_reducible exact HK8.out
         | with_reducible exact HK8.out.bel ((Below.refl _ _).alloc (Nat.le_refl _) _)
         | with_reducible exact HK9.out
         | fail)))
        (first
        | ((go_at_call 60); (with_reducible refine (ref_any _ _).mono ?_); rintro e2 w8 ⟨rfl, hb8⟩; have HK8 := hid (HK0.out.bel hb8); have HB8 : Hid (Below wr.heap.size wr w8) := ((Below.refl wr.heap.size wr).drew).trans hb8; clear hb8)
        | ((go_at_call 45); (with_reducible refine (prim_any' _ _ _ _ _).mono ?_); rintro e2 w9 ⟨rfl, hb9⟩; have HN9 := hid ((hb9.block _ (by simp)).trans (heap_alloc_new w8 _)); have hb89 := ((Below.refl w8.heap.size w8).alloc (Nat.le_refl _) (.cells #[.int .i64 1, .string e.name, .slice none 0 0, .int .i64 0, .int .i64 0, .string ⟨#[]⟩, .slice none 0 0, .slice none 0 0, .int .i64 qe.kind, .string qe.name, .slice qan qnn qcn, .int .i64 qe.const.kind, .int .i64 qe.const.int, .string qe.const.text, .slice qad qnd qcd, .slice qak qnk qck] 28)).trans (hb9.mono (by simp)); have HK9 := hid (HK8.out.bel hb89); have HB9 := hid (HB8.out.trans (hb89.mono HB8.out.size)); have HZ9 := hid ((HB9.out.block _ (Array.getElem?_eq_some_iff.1 HZR.out).1).trans HZR.out); obtain ⟨⟨_, s0⟩, ⟨_, s1⟩, ⟨_, s2⟩, ⟨_, s3⟩, ⟨_, s4⟩, ⟨_, s5⟩, ⟨_, s6⟩, ⟨_, s7⟩, q0, q1, q2, q3, q4, q5, q6, q7, sbl⟩ := blk8 HZ9.out; clear hb9 hb89)
        | fail)
       go_wp2_with fail
       refine bodyPost_ret (res1 rfl _ _ (w.heap.size + 1) 28 #[.int .i64 7, .string ⟨#[37, 115, 101, 116, 45, 98, 111, 120, 33]⟩, .slice none 0 0, .int .i64 0, .int .i64 0, .string ⟨#[]⟩, .slice none 0 0, .slice (some ⟨w8.heap.size, 0, none⟩) 2 2] (0, 0) rfl (eight_set _ _ _ _ _ _ _ _ _ _ _ (.int .i64 7) (.string ⟨#[37, 115, 101, 116, 45, 98, 111, 120, 33]⟩) (.slice none 0 0) (.int .i64 0) (.int .i64 0) (.string ⟨#[]⟩) (.slice none 0 0) (.slice (some ⟨w8.heap.size, 0, none⟩) 2 2) HZ9.out) exprD exprSize) rfl ?_
       show MadePost w0.heap.size (Ex.boxE (BV V) e) w _ (put8 w9 (w.heap.size + 1) (.int .i64 7) (.string ⟨#[37, 115, 101, 116, 45, 98, 111, 120, 33]⟩) (.slice none 0 0) (.int .i64 0) (.int .i64 0) (.string ⟨#[]⟩) (.slice none 0 0) (.slice (some ⟨w8.heap.size, 0, none⟩) 2 2))
       have hks := On.kids (S := fun b => ρ b = 0 ∨ ρ b = 2) (M := [(⟨Ex.refE e.name, .slice none 0 0, .slice none 0 0, .slice none 0 0⟩ : XM), (⟨qe, .slice qan qnn qcn, .slice qad qnd qcd, .slice qak qnk qck⟩ : XM)]) (own_lit2 HN9.out) (fun b e => by cases e; exact .inl (HX.out.ri.hi _ HB8.out.size)) (fun x hx => by
        simp only [List.mem_cons, List.not_mem_nil, or_false] at hx
        rcases hx with rfl | rfl
        ·exact On.mk On.nil On.zero room_nil On.nokids
        ·exact (HQF.out.bel HB9.out).mono fun b e _ => .inl e)
       have hon := made_box (z := w.heap.size + 1) (P := fun w => ExAt w (exV 7 ⟨#[37, 115, 101, 116, 45, 98, 111, 120, 33]⟩ (.slice none 0 0) Dt.zero (.slice none 0 0) (.slice (some ⟨w8.heap.size, 0, none⟩) 2 2)) (Ex.primE ⟨#[37, 115, 101, 116, 45, 98, 111, 120, 33]⟩ [Ex.refE e.name, qe])) HBW.out.size (On.mk On.nil On.zero room_nil hks) (Below.refl _ _) HR8R.out HRZ.out (.int .i64 7) (.string ⟨#[37, 115, 101, 116, 45, 98, 111, 120, 33]⟩) (.slice none 0 0) (.int .i64 0) (.int .i64 0) (.string ⟨#[]⟩) (.slice none 0 0) (.slice (some ⟨w8.heap.size, 0, none⟩) 2 2)
       have hbw := below_put8 (g := w.heap.size + 1) (HBWR.out.trans (HB9.out.mono HBWR.out.size)) (Nat.le_succ _) (.int .i64 7) (.string ⟨#[37, 115, 101, 116, 45, 98, 111, 120, 33]⟩) (.slice none 0 0) (.int .i64 0) (.int .i64 0) (.string ⟨#[]⟩) (.slice none 0 0) (.slice (some ⟨w8.heap.size, 0, none⟩) 2 2)
       unfold MadePost
       with_reducible refine ⟨⟨Ex.primE Ex.sSetBox [Ex.refE e.name, qe], .slice none 0 0, .slice none 0 0, .slice (some ⟨w8.heap.size, 0, none⟩) 2 2⟩, HQ.out.symm, ?_, ?_, hbw⟩
       ·rfl
       ·exact hon
      ·have p2 : (e.kind == 2) = false := beq_eq_false_iff_ne.2 k2
       by_cases k8 : e.kind = 8
       ·have p8 : (e.kind == 8) = true := by rw [k8]; rfl
        have hfl : e.kids.length = e.names.length + 1 := form_let8 ((Ex.all_iff Ex.form e).1 HFO.out).1 k8
        have hbi := HX.out
        have hmk : M.length = e.names.length + 1 := HMJ.out.trans hfl
        obtain ⟨g, hag⟩ : ∃ g, ak = some ⟨g, 0, none⟩ := by
         rw [hmk] at hbi
         obtain ⟨g, c, e⟩ := own_ne (n := e.names.length) (by have := hbi.row.row.1; rw [hmk] at this; exact this)
         exact ⟨g, (Value.slice.inj e).1⟩
        subst hag
        have HFL := hid hfl
        have HMK2 := hid hmk
        have HQ8 : Hid (Ex.boxE (BV V) e = .mk e.kind e.name e.names e.const (Ex.boxIns (Ex.innerB e (BV V)) e.names K)) := by unfold Hid; rw [HEQ.out]; unfold Ex.boxK; rw [if_neg k1, if_neg k2, if_pos k8]
        clear k1 k2 k8 hfl hmk hbi hlk s0 s1 s2 s3 s4 s5 s6 s7 q0 q1 q2 q3 q4 q5 q6 q7 sbl
        have HXM := HX
        obtain ⟨wm, hwm⟩ : ∃ z, z = wr := ⟨_, rfl⟩
        subst hwm
        go_wp2_with fail
        go_loopg [87] e.names.length (fun g' i wr => ∃ (j : Nat) (M' : List XM), j ≤ e.names.length ∧ g' = e.names.length - j ∧ i = .int .i64 j ∧ M'.length = M.length ∧ Bx w0.heap.size e (.slice na e.names.length nc) (.slice da dn dc) w5 ρ0 wk.heap.size wr ρ (.slice (some ⟨g, 0, none⟩) M'.length ck) M' ∧ M'.map (·.e) = Ex.boxIns (Ex.innerB e (BV V)) (e.names.take j) K)
        case atStart => exact ⟨0, M, Nat.zero_le _, rfl, rfl, rfl, HX.out, by rw [HE2.out]; rfl⟩
        case round =>
         obtain ⟨j, M', hj, rfl, rfl, hml2, hx, hes⟩ := hrel
         have HX3 := hid hx
         have HES3 := hid hes
         have HML3 := hid hml2
         have HBK3 : Hid (Below wk.heap.size wk wr) := HB5.out.below.trans (hx.below HLOW.out (by rw [HS5.out]; omega))
         have HB03 : Hid (Below w0.heap.size w0 wr) := HB0K.out.trans (HBK3.out.mono HB0K.out.size)
         have hpr := (HBK3.out.block w.heap.size (by have := HL2.out; omega)).trans HPK.out
         have hob : wr.cell? ⟨wk.heap.size, 7, none⟩ = some (.slice (some ⟨g, 0, none⟩) M'.length ck) := cell_of_row _ _ 7 _ _ _ hx.blk
         have hobl := (Array.getElem?_eq_some_iff.1 hx.blk).1
         clear x0 x1 x2 x3 x4 x5 x6 x7 hbl o0 o1 o2 o3 o4 o5 o6 o7 obl
         obtain ⟨x0, x1, x2, x3, x4, x5, x6, x7, hbl⟩ := Row.of hpr
         clear hpr hes hml2
         by_cases hlt : j < e.names.length
         ·obtain ⟨n, hn⟩ : ∃ n, e.names[j]? = some n := ⟨_, List.getElem?_eq_getElem hlt⟩
          have hkk : j < K.length := by have h1 := HFL.out; have h2 := congrArg List.length HE2.out; rw [List.length_map] at h2; have h3 := HMK2.out; omega
          obtain ⟨kd, hkd⟩ : ∃ kd, K[j]? = some kd := ⟨_, List.getElem?_eq_getElem hkk⟩
          obtain ⟨hst, hat⟩ := boxIns_step (B := Ex.innerB e (BV V)) hn hkd
          rw [← HES3.out, List.getElem?_map] at hat
          obtain ⟨qm, hqm, hqe⟩ : ∃ qm, M'[j]? = some qm ∧ qm.e = kd := by simpa using hat
          have gw : IntKind.i64.wrap ((j : Int) + 1) = ((j + 1 : Nat) : Int) := by rw [IntKind.wrap_i64]; have := HNL.out; omega
          obtain ⟨nb, noff, hna, hnb, hnc⟩ := text_at (HO.out.bel HB03.out).names hn
          subst hna
          have hlk := (HIR.out.bel HBK3.out).look n
          have HST := hid hst
          have HQE := hid hqe
          clear hn hkk hkd hst hat hqe
          have hbn : Ex.innerB e (BV V) n = decide (upW e V e.names.length n = 1) := by rw [← upW_end]; rfl
          have HBN := hid hbn
          clear hbn
          generalize upW e V e.names.length n = vn at hlk HBN
          by_cases hv : vn = 1
          ·have pv : (vn == 1) = true := by rw [hv]; rfl
           have HBV : Hid (Ex.innerB e (BV V) n = true) := by unfold Hid; rw [HBN.out, hv]; rfl
           have hqf := HX3.out.row.els qm (List.mem_of_getElem? hqm)
           obtain ⟨⟨qan, qnn, qcn, t1⟩, ⟨qad, qnd, qcd, t2⟩, ⟨qak, qnk, qck, t3⟩⟩ := ExAt.slices hqf.at
           obtain ⟨qe, qnv, qdl, qkv⟩ := qm
           dsimp only at t1 t2 t3 hqf
           subst t1 t2 t3
           have HQF := hid hqf
           have HQM := hid hqm
           have g1 : (0 : Int) ≤ (j : Int) := by omega
           have g2 : (j : Int) < (M'.length : Int) := by have h1 := HML3.out; have h3 := HMK2.out; omega
           have g3 : (j : Int) < (e.names.length : Int) := by omega
           obtain ⟨t0, t1, t2, t3, t4, t5, t6, t7⟩ := rowC HX3.out.row.row.1 hqm
           dsimp only at t0 t1 t2 t3 t4 t5 t6 t7
           have hgl := (HX3.out.row.row.1.lt g rfl).2
           have HSD : Hid (wr.drew.cell? ⟨wk.heap.size, 7, none⟩ = some (.slice (some ⟨g, 0, none⟩) M'.length ck)) := hob
           have HSA : Hid (((wr.alloc (.cells #[.int .i64 qe.kind, .string qe.name, .slice qan qnn qcn, .int .i64 qe.const.kind, .int .i64 qe.const.int, .string qe.const.text, .slice qad qnd qcd, .slice qak qnk qck] 28)).drew).cell? ⟨wk.heap.size, 7, none⟩ = some (.slice (some ⟨g, 0, none⟩) M'.length ck)) := (((Below.refl wr.heap.size wr).alloc (Nat.le_refl _) (.cells #[.int .i64 qe.kind, .string qe.name, .slice qan qnn qcn, .int .i64 qe.const.kind, .int .i64 qe.const.int, .string qe.const.text, .slice qad qnd qcd, .slice qak qnk qck] 28)).drew.cell (p := ⟨wk.heap.size, 7, none⟩) hobl).trans hob
           clear hqf hv hj
           go_upto_region 30 with fail
           refine wp_region_held_drew (S := fun W => W.cell? ⟨wk.heap.size, 7, none⟩ = some (.slice (some ⟨g, 0, none⟩) M'.length ck)) (by kernel_rfl) HSD.out (fun hHeld => ?_)
           refine wpAnyH_take (i := 0) (v := ?vA1) rfl (by kernel_rfl) (by kernel_rfl) (by kernel_rfl) (fun _ _ _ h => h) (Or.inl ⟨by rfl, ?hyA1⟩) (by assumption) ?rA1
           case hyA1 => (intro w hSw; (try dsimp only at hSw); go_simp; (try with_reducible rfl))
           try simp only [Act.put, List.getElem_toArray, List.getElem_cons_zero, List.getElem_cons_succ, List.setIfInBounds_toArray, List.set_cons_zero, List.set_cons_succ]
           refine wpAnyH_take (i := 1) (v := ?vA2) rfl (by kernel_rfl) (by kernel_rfl) (by kernel_rfl) (fun _ _ _ h => h) (Or.inl ⟨by rfl, ?hyA2⟩) (by assumption) ?rA2
           case hyA2 => (intro w hSw; (try dsimp only at hSw); go_simp; (try with_reducible rfl))
           try simp only [Act.put, List.getElem_toArray, List.getElem_cons_zero, List.getElem_cons_succ, List.setIfInBounds_toArray, List.set_cons_zero, List.set_cons_succ]
           refine wpAnyH_take (i := 2) (v := ?vA3) rfl (by kernel_rfl) (by kernel_rfl) (by kernel_rfl) (fun _ _ _ h => h) (Or.inl ⟨by rfl, ?hyA3⟩) (by assumption) ?rA3
           case hyA3 => (intro w hSw; (try dsimp only at hSw); go_simp; (try with_reducible rfl))
           try simp only [Act.put, List.getElem_toArray, List.getElem_cons_zero, List.getElem_cons_succ, List.setIfInBounds_toArray, List.set_cons_zero, List.set_cons_succ]
           refine wpAnyH_take (i := 3) (v := ?vA4) rfl (by kernel_rfl) (by kernel_rfl) (by kernel_rfl) (fun _ _ _ h => h) (Or.inl ⟨by rfl, ?hyA4⟩) (by assumption) ?rA4
           case hyA4 => (intro w hSw; (try dsimp only at hSw); go_simp; (try with_reducible rfl))
           try simp only [Act.put, List.getElem_toArray, List.getElem_cons_zero, List.getElem_cons_succ, List.setIfInBounds_toArray, List.set_cons_zero, List.set_cons_succ]
           refine wpAnyH_take (i := 4) (v := ?vA5) rfl (by kernel_rfl) (by kernel_rfl) (by kernel_rfl) (fun _ _ _ h => h) (Or.inl ⟨by rfl, ?hyA5⟩) (by assumption) ?rA5
           case hyA5 => (intro w hSw; (try dsimp only at hSw); go_simp; (try with_reducible rfl))
           try simp only [Act.put, List.getElem_toArray, List.getElem_cons_zero, List.getElem_cons_succ, List.setIfInBounds_toArray, List.set_cons_zero, List.set_cons_succ]
           refine wpAnyH_take (i := 5) (v := ?vA6) rfl (by kernel_rfl) (by kernel_rfl) (by kernel_rfl) (fun _ _ _ h => h) (Or.inl ⟨by rfl, ?hyA6⟩) (by assumption) ?rA6
           case hyA6 => (intro w hSw; (try dsimp only at hSw); go_simp; (try with_reducible rfl))
           try simp only [Act.put, List.getElem_toArray, List.getElem_cons_zero, List.getElem_cons_succ, List.setIfInBounds_toArray, List.set_cons_zero, List.set_cons_succ]
           refine wpAnyH_take (i := 6) (v := ?vA7) rfl (by kernel_rfl) (by kernel_rfl) (by kernel_rfl) (fun _ _ _ h => h) (Or.inl ⟨by rfl, ?hyA7⟩) (by assumption) ?rA7
           case hyA7 => (intro w hSw; (try dsimp only at hSw); go_simp; (try with_reducible rfl))
           try simp only [Act.put, List.getElem_toArray, List.getElem_cons_zero, List.getElem_cons_succ, List.setIfInBounds_toArray, List.set_cons_zero, List.set_cons_succ]
           refine wpAnyH_ready (rs := [7]) (by kernel_rfl) (by simp) ?bA9
           refine AllReadyH.cons rfl (fun K hK => ?sA10) AllReadyH.nil
           try simp only [List.getElem_toArray, List.getElem_cons_zero, List.getElem_cons_succ]
           go_simp
           refine hK.out _ _ ?SA10 (fun hHeld => ?kA10)
           case SA10 => exact HSD.out
           clear hK K
           try simp only [Act.put, List.getElem_toArray, List.getElem_cons_zero, List.getElem_cons_succ, List.setIfInBounds_toArray, List.set_cons_zero, List.set_cons_succ]
           refine wpAnyH_ready (rs := [8]) (by kernel_rfl) (by simp) ?bA11
           refine AllReadyH.cons rfl (fun K hK => ?sA12) AllReadyH.nil
           try simp only [List.getElem_toArray, List.getElem_cons_zero, List.getElem_cons_succ]
           go_simp
           refine hK.out _ _ ?SA12 (fun hHeld => ?kA12)
           case SA12 => exact HSA.out
           clear hK K
           try simp only [Act.put, List.getElem_toArray, List.getElem_cons_zero, List.getElem_cons_succ, List.setIfInBounds_toArray, List.set_cons_zero, List.set_cons_succ]
           refine wpAnyH_ready (rs := [9]) (by kernel_rfl) (by simp) ?bA13
           refine AllReadyH.cons rfl (fun K hK => ?sA14) AllReadyH.nil
           try simp only [List.getElem_toArray, List.getElem_cons_zero, List.getElem_cons_succ]
           go_simp
           go_at_call 45
           with_reducible refine (prim_any' _ _ _ _ _).mono ?_
           rintro e2 w8 ⟨rfl, hb8⟩
           have hb8r : Below wr.heap.size wr w8 := (((Below.refl _ _).alloc (Nat.le_refl _) _).drew).trans (hb8.mono (by simp [World.drew]))
           have HN8 := hid ((hb8.block wr.heap.size (by simp [World.drew])).trans (drew_at2 (heap_alloc_new wr _)))
           have HB8 := hid hb8r
           have HX8 := hid (HX3.out.bel hb8r)
           have hpx := prim1_on (S := fun b => ρ b = 0) (x := (⟨qe, .slice qan qnn qcn, .slice qad qnd qcd, .slice qak qnk qck⟩ : XM)) Ex.sBox HN8.out (HX3.out.ri.hi _ (Nat.le_refl _)) (HQF.out.bel HB8.out)
           have HX11 := hid (HX3.out.set HQM.out HB8.out (y := (⟨Ex.primE Ex.sBox [qe], .slice none 0 0, .slice none 0 0, .slice (some ⟨wr.heap.size, 0, none⟩) 1 1⟩ : XM)) hpx)
           have hc11 : (putR w8 g (j * 8) (.int .i64 7) (.string ⟨#[37, 98, 111, 120]⟩) (.slice none 0 0) (.int .i64 0) (.int .i64 0) (.string ⟨#[]⟩) (.slice none 0 0) (.slice (some ⟨wr.heap.size, 0, none⟩) 1 1)).cell? ⟨wk.heap.size, 7, none⟩ = some (.slice (some ⟨g, 0, none⟩) M'.length ck) := cell_of_row _ _ 7 _ _ _ HX11.out.blk
           unfold putR at hc11
           have HC11 := hid hc11
           clear hc11 hpx
           have HC8 : Hid (w8.cell? ⟨wk.heap.size, 7, none⟩ = some (.slice (some ⟨g, 0, none⟩) M'.length ck)) := cell_of_row _ _ 7 _ _ _ HX8.out.blk
           obtain ⟨t0, t1, t2, t3, t4, t5, t6, t7⟩ := rowC HX8.out.row.row.1 hqm
           dsimp only at t0 t1 t2 t3 t4 t5 t6 t7
           have f8 := own_frozen HX8.out.row.row.1
           have f80 := f8 (j * 8)
           have f81 := f8 (j * 8 + 1)
           have f82 := f8 (j * 8 + 2)
           have f83 := f8 (j * 8 + 3)
           have f84 := f8 (j * 8 + 4)
           have f85 := f8 (j * 8 + 5)
           have f86 := f8 (j * 8 + 6)
           have f87 := f8 (j * 8 + 7)
           have hgl8 := (HX8.out.row.row.1.lt g rfl).2
           clear hb8 hb8r f8
           refine hK.out _ _ ?SA14 (fun hHeld => ?kA14)
           case SA14 => exact HC8.out
           clear hK K
           try simp only [Act.put, List.getElem_toArray, List.getElem_cons_zero, List.getElem_cons_succ, List.setIfInBounds_toArray, List.set_cons_zero, List.set_cons_succ]
           refine wpAnyH_take (i := 10) (v := ?vA8) rfl (by kernel_rfl) (by kernel_rfl) (by kernel_rfl) (fun _ _ _ h => h) (Or.inl ⟨by rfl, ?hyA8⟩) (by assumption) ?rA8
           case hyA8 => (intro w hSw; (try dsimp only at hSw); go_simp; (try with_reducible rfl))
           try simp only [Act.put, List.getElem_toArray, List.getElem_cons_zero, List.getElem_cons_succ, List.setIfInBounds_toArray, List.set_cons_zero, List.set_cons_succ]
           refine wpAnyH_ready (rs := [11]) (by kernel_rfl) (by simp) ?bA15
           refine AllReadyH.cons rfl (fun K hK => ?sA16) AllReadyH.nil
           try simp only [List.getElem_toArray, List.getElem_cons_zero, List.getElem_cons_succ]
           go_simp
           refine hK.out _ _ ?SA16 (fun hHeld => ?kA16)
           case SA16 => exact HC11.out
           clear hK K
           try simp only [Act.put, List.getElem_toArray, List.getElem_cons_zero, List.getElem_cons_succ, List.setIfInBounds_toArray, List.set_cons_zero, List.set_cons_succ]
           refine wpAnyH_done (by kernel_rfl) ?_ _
           go_wp2_with fail
           go_roundg (e.names.length - (j + 1))
           case measure => omega
           case rel => exact ⟨j + 1, M'.set j (⟨Ex.primE Ex.sBox [qe], .slice none 0 0, .slice none 0 0, .slice (some ⟨wr.heap.size, 0, none⟩) 1 1⟩ : XM), by omega, rfl, by go_num, by rw [List.length_set]; exact HML3.out, by
            have h := HX11.out
            unfold putR at h
            rw [List.length_set]
            exact h, by
            rw [HST.out, HBV.out, if_pos rfl, ← HES3.out, ← HQE.out, List.map_set]⟩
          ·have pv : (vn == 1) = false := beq_eq_false_iff_ne.2 hv
           have HBV : Hid (Ex.innerB e (BV V) n = false) := by unfold Hid; rw [HBN.out]; exact decide_eq_false hv
           clear hv
           go_wp2_with fail
           go_roundg (e.names.length - (j + 1))
           case measure => omega
           case rel => exact ⟨j + 1, M', by omega, rfl, by go_num, HML3.out, HX3.out, by
            rw [HST.out, HBV.out, if_neg Bool.false_ne_true, ← HES3.out, ← HQE.out]
            exact (set_same hqm).symm⟩
         ·obtain rfl : j = e.names.length := by omega
          have hge : ¬ ((e.names.length : Int) < (e.names.length : Int)) := by omega
          have hes4 := HES3.out
          rw [List.take_length] at hes4
          have hbase := HX3.out.base HO.out HB03.out rfl
          rw [hes4] at hbase
          have HBASE3 := hid hbase
          have hz3 := ((HBK3.out.block (w.heap.size + 1) (by have := HL2.out; omega)).trans (HBR.out.block (w.heap.size + 1) (by rw [HS2.out]; omega))).trans HZB.out
          have HZ3 := hid hz3
          have HBW3 : Hid (Below w.heap.size w wr) := (HB02.out.trans (HBR.out.mono HB02.out.size)).trans (HBK3.out.mono (Nat.le_trans HB02.out.size HBR.out.size))
          obtain ⟨⟨_, s0⟩, ⟨_, s1⟩, ⟨_, s2⟩, ⟨_, s3⟩, ⟨_, s4⟩, ⟨_, s5⟩, ⟨_, s6⟩, ⟨_, s7⟩, q0, q1, q2, q3, q4, q5, q6, q7, sbl⟩ := blk8 hz3
          obtain ⟨o0, o1, o2, o3, o4, o5, o6, o7, obl⟩ := Row.of HX3.out.blk
          clear hlt hj hes4 hbase hz3
          go_wp2_with fail
          refine bodyPost_ret (res1 rfl _ _ (w.heap.size + 1) 28 #[.int .i64 e.kind, .string e.name, .slice na e.names.length nc, .int .i64 e.const.kind, .int .i64 e.const.int, .string e.const.text, .slice da dn dc, .slice (some ⟨g, 0, none⟩) M'.length ck] (0, 0) rfl (eight_set _ _ _ _ _ _ _ _ _ _ _ (.int .i64 e.kind) (.string e.name) (.slice na e.names.length nc) (.int .i64 e.const.kind) (.int .i64 e.const.int) (.string e.const.text) (.slice da dn dc) (.slice (some ⟨g, 0, none⟩) M'.length ck) HZ3.out) exprD exprSize) rfl ?_
          show MadePost w0.heap.size (Ex.boxE (BV V) e) w _ (put8 wr (w.heap.size + 1) (.int .i64 e.kind) (.string e.name) (.slice na e.names.length nc) (.int .i64 e.const.kind) (.int .i64 e.const.int) (.string e.const.text) (.slice da dn dc) (.slice (some ⟨g, 0, none⟩) M'.length ck))
          have hon := made_box (z := w.heap.size + 1) HBW.out.size HBASE3.out (Below.refl _ _) HR8R.out HRZ.out (.int .i64 e.kind) (.string e.name) (.slice na e.names.length nc) (.int .i64 e.const.kind) (.int .i64 e.const.int) (.string e.const.text) (.slice da dn dc) (.slice (some ⟨g, 0, none⟩) M'.length ck)
          have hbw := below_put8 (g := w.heap.size + 1) HBW3.out (Nat.le_succ _) (.int .i64 e.kind) (.string e.name) (.slice na e.names.length nc) (.int .i64 e.const.kind) (.int .i64 e.const.int) (.string e.const.text) (.slice da dn dc) (.slice (some ⟨g, 0, none⟩) M'.length ck)
          unfold MadePost
          with_reducible refine ⟨⟨.mk e.kind e.name e.names e.const (Ex.boxIns (Ex.innerB e (BV V)) e.names K), .slice na e.names.length nc, .slice da dn dc, .slice (some ⟨g, 0, none⟩) M'.length ck⟩, HQ8.out.symm, ?_, ?_, hbw⟩
          ·rfl
          ·exact hon
       ·have p8 : (e.kind == 8) = false := beq_eq_false_iff_ne.2 k8
        by_cases k5 : e.kind = 5
        ·have p5 : (e.kind == 5) = true := by rw [k5]; rfl
         obtain ⟨hk1, hn6⟩ := form_lam5 ((Ex.all_iff Ex.form e).1 HFO.out).1 k5
         have hml : M.length = 1 := HMJ.out.trans hk1
         obtain ⟨qm, hqm⟩ := List.length_eq_one_iff.1 hml
         subst hqm
         have hqf := HX.out.row.els qm (by simp)
         obtain ⟨⟨qan, qnn, qcn, t1⟩, ⟨qad, qnd, qcd, t2⟩, ⟨qak, qnk, qck, t3⟩⟩ := ExAt.slices hqf.at
         obtain ⟨qe, qnv, qdl, qkv⟩ := qm
         dsimp only at t1 t2 t3 hqf
         subst t1 t2 t3
         have HQE : Hid (K = [qe]) := HE2.out.symm
         have HQ5 : Hid (Ex.boxE (BV V) e = .mk e.kind e.name e.names e.const [Ex.letE (e.names.filter (Ex.innerB e (BV V))) ((e.names.filter (Ex.innerB e (BV V))).map fun s => Ex.primE Ex.sBox [Ex.refE s]) qe]) := by unfold Hid; rw [HEQ.out, HQE.out]; unfold Ex.boxK; rw [if_neg k1, if_neg k2, if_neg k8, if_pos k5]; rfl
         obtain ⟨g, hag⟩ : ∃ g, ak = some ⟨g, 0, none⟩ := by
          obtain ⟨g, c, e⟩ := own_ne (n := 0) HX.out.row.row.1
          exact ⟨g, (Value.slice.inj e).1⟩
         subst hag
         have HN6 := hid hn6
         clear k1 k2 k8 k5 hk1 hn6 hml hqf hlk s0 s1 s2 s3 s4 s5 s6 s7 q0 q1 q2 q3 q4 q5 q6 q7 sbl
         have hby : By w0.heap.size e (.slice na e.names.length nc) (.slice da dn dc) w5 ρ0 wk.heap.size wr ρ (.slice (some ⟨g, 0, none⟩) 1 ck) [(⟨qe, .slice qan qnn qcn, .slice qad qnd qcd, .slice qak qnk qck⟩ : XM)] (.slice none 0 0) (.slice none 0 0) [] [] := ⟨HX.out, RowR.none _ _ _ _ _, XR.none _ _ _, rfl⟩
         have HBY := hid hby
         clear hby
         obtain ⟨wm, hwm⟩ : ∃ z, z = wr := ⟨_, rfl⟩
         subst hwm
         go_wp2_with fail
         go_loopg [14, 15, 113] e.names.length (fun g' s14 s15 i wr => ∃ (j : Nat) (ρ' : Nat → Nat) (vl vi : Value) (l : List ByteArray) (IX : List XM), j ≤ e.names.length ∧ g' = e.names.length - j ∧ vl = s14 ∧ vi = s15 ∧ i = .int .i64 j ∧ l = (e.names.take j).filter (Ex.innerB e (BV V)) ∧ By w0.heap.size e (.slice na e.names.length nc) (.slice da dn dc) w5 ρ0 wk.heap.size wr ρ' (.slice (some ⟨g, 0, none⟩) 1 ck) [(⟨qe, .slice qan qnn qcn, .slice qad qnd qcd, .slice qak qnk qck⟩ : XM)] vl vi l IX)
         case atStart => exact ⟨0, ρ, _, _, [], [], Nat.zero_le _, rfl, rfl, rfl, rfl, rfl, HBY.out⟩
         case round =>
          obtain ⟨j, ρ4, vl, vi, l, IX, hj, rfl, rfl, rfl, rfl, hl, hy⟩ := hrel
          have HY := hid hy
          have HL := hid hl
          have hll : l.length ≤ e.names.length := by rw [hl]; exact Nat.le_trans (List.length_filter_le _ _) (by rw [List.length_take]; omega)
          have hil : IX.length = l.length := by have := congrArg List.length hy.ie; simpa using this
          have HLL : Hid (l.length ≤ 6 ∧ IX.length ≤ 6) := by have := HN6.out; exact ⟨by omega, by omega⟩
          have HBK4 : Hid (Below wk.heap.size wk wr) := HB5.out.below.trans (hy.bx.below HLOW.out (by rw [HS5.out]; omega))
          have HB04 : Hid (Below w0.heap.size w0 wr) := HB0K.out.trans (HBK4.out.mono HB0K.out.size)
          have hpr := (HBK4.out.block w.heap.size (by have := HL2.out; omega)).trans HPK.out
          clear x0 x1 x2 x3 x4 x5 x6 x7 hbl o0 o1 o2 o3 o4 o5 o6 o7 obl hl hll hil hy
          obtain ⟨x0, x1, x2, x3, x4, x5, x6, x7, hbl⟩ := Row.of hpr
          clear hpr
          by_cases hlt : j < e.names.length
          ·obtain ⟨n, hn⟩ : ∃ n, e.names[j]? = some n := ⟨_, List.getElem?_eq_getElem hlt⟩
           have hfs := filter_step (B := Ex.innerB e (BV V)) hn
           have gw : IntKind.i64.wrap ((j : Int) + 1) = ((j + 1 : Nat) : Int) := by rw [IntKind.wrap_i64]; have := HNL.out; omega
           obtain ⟨nb, noff, hna, hnb, hnc⟩ := text_at (HO.out.bel HB04.out).names hn
           subst hna
           have hlk := (HIR.out.bel HBK4.out).look n
           have hbn : Ex.innerB e (BV V) n = decide (upW e V e.names.length n = 1) := by rw [← upW_end]; rfl
           have HFS := hid hfs
           have HBN := hid hbn
           clear hn hfs hbn
           generalize upW e V e.names.length n = vn at hlk HBN
           by_cases hv : vn = 1
           ·have pv : (vn == 1) = true := by rw [hv]; rfl
            have HBV : Hid (Ex.innerB e (BV V) n = true) := by unfold Hid; rw [HBN.out, hv]; rfl
            have HOL : Hid ((wr.alloc (.cells #[.string n] 9)).ownsRow 0 9 1 vl l.length (strs l)) := HY.out.ls.1.alloc _
            clear hv hj
            go_wp2_with (first
             | (at_builtin; refine wpList_append_v rfl (.tmp 121) (.tmp 123) 22 rfl 0 9 j0 _ 1 16 Tryz.underlying22 HJ0.out HY0.out HY1.out HY2.out rfl (by decide) vl l.length (strs l) rfl HOL.out (some ⟨wr.heap.size, 0, none⟩) 1 1 [.string n] rfl rfl (.inr ⟨_, rfl, new_cell1 _ _ _⟩) (by simp [Value.oneCell']) (by have := HLL.out.1; simp only [maxLen]; omega) (by have := HLL.out.1; omega) (Nat.zero_le _) (wr.heap.size + 1) (by simp) ?_; intro av4 cv4 w4 hown hgr hlb; generalize hv4 : Value.slice av4 (l.length + 1) cv4 = v4 at hown hlb ⊢; clear hv4; obtain ⟨ρ6, n1, n2, n3⟩ := HY.out.name (fun i => (H45.out i).1) ((Below.refl _ _).alloc (Nat.le_refl _) _) hown hgr (by rcases hlb with h | h; exact .inl h; exact .inr (by simpa using h)); have HN1 := hid n1; have HN2 := hid n2; have HN3 := hid n3; clear hown hgr hlb n1 n2 n3)
             | (go_at_call 60; (with_reducible refine (ref_any _ _).mono ?_); rintro e2 w6 ⟨rfl, hb6⟩; have HB6' := hid hb6; clear hb6)
             | (go_at_call 45; (with_reducible refine (prim_any' _ _ _ _ _).mono ?_); rintro e2 w7 ⟨rfl, hb7⟩; have hr7 := (hb7.block w6.heap.size (by simp)).trans (heap_alloc_new w6 _); have hb47 : Below w4.heap.size w4 w7 := HB6'.out.trans ((((Below.refl w6.heap.size w6).alloc (Nat.le_refl _) (.cells #[.int .i64 1, .string n, .slice none 0 0, .int .i64 0, .int .i64 0, .string ⟨#[]⟩, .slice none 0 0, .slice none 0 0] 28)).trans (hb7.mono (by simp))).mono HB6'.out.size); have HBX7 := hid (HN1.out.bel hb47); have HLS7 : Hid (RowR w7 ρ6 4 9 1 (l ++ [n]).length v4 (strs (l ++ [n]))) := RowR.keep HN2.out fun b hl e => ⟨hb47.block b hl, e⟩; have HIS7 := hid (HN3.out.bel hb47); have HPXX := hid (prim1_on (S := fun b => ρ6 b = 0) (x := (⟨Ex.refE n, .slice none 0 0, .slice none 0 0, .slice none 0 0⟩ : XM)) Ex.sBox hr7 (HN1.out.ri.hi _ HB6'.out.size) (On.mk On.nil On.zero room_nil On.nokids)); have HAPI := hid (appX HIS7.out (Below.refl _ _) (⟨Ex.primE Ex.sBox [Ex.refE n], .slice none 0 0, .slice none 0 0, .slice (some ⟨w6.heap.size, 0, none⟩) 1 1⟩ : XM) ⟨_, _, _, rfl⟩ ⟨_, _, _, rfl⟩ ⟨_, _, _, rfl⟩); clear hb7 hr7 hb47)
             | (at_builtin; refine wpList_append_v rfl (.tmp 125) (.tmp 130) 26 rfl 0 28 i0 _ 8 128 Tryz.underlying26 HI.out HZ0.out HZ1.out HZ2.out rfl (by decide) vi IX.length (flatX IX) rfl HAPI.out.own (some ⟨w7.heap.size, 0, none⟩) 1 1 (XM.cells (⟨Ex.primE Ex.sBox [Ex.refE n], .slice none 0 0, .slice none 0 0, .slice (some ⟨w6.heap.size, 0, none⟩) 1 1⟩ : XM)) rfl HAPI.out.len (.inr ⟨_, rfl, HAPI.out.src⟩) HAPI.out.one (by have := HLL.out.2; simp only [maxLen]; omega) (by have := HLL.out.2; omega) (Nat.zero_le _) (w7.heap.size + 1) HAPI.out.size ?_; intro av8 cv8 w8 hown hgr hlb; generalize hv8 : Value.slice av8 (IX.length + 1) cv8 = v8 at hown hlb ⊢; clear hv8; have HOW8 := hid hown; have HGR8 := hid hgr; have HLB8 := hid hlb; clear hown hgr hlb)
             | fail)
            obtain ⟨ρ8, h8⟩ := by_box HBX7.out HLS7.out HIS7.out (fun i => (H45.out i).2) (y := (⟨Ex.primE Ex.sBox [Ex.refE n], .slice none 0 0, .slice none 0 0, .slice (some ⟨w6.heap.size, 0, none⟩) 1 1⟩ : XM)) HPXX.out ((Below.refl _ _).alloc (Nat.le_refl _) _) HOW8.out HGR8.out (by rcases HLB8.out with h | h; exact .inl h; exact .inr (by simpa using h)) (by rw [List.map_append, List.map_append, HY.out.ie]; rfl)
            have H8 := hid h8
            clear h8
            go_roundg (e.names.length - (j + 1))
            case measure => omega
            case rel => exact ⟨j + 1, ρ8, _, _, l ++ [n], IX ++ [(⟨Ex.primE Ex.sBox [Ex.refE n], .slice none 0 0, .slice none 0 0, .slice (some ⟨w6.heap.size, 0, none⟩) 1 1⟩ : XM)], by omega, rfl, rfl, rfl, by go_num, by rw [HFS.out, HBV.out, if_pos rfl, HL.out], H8.out⟩
           ·have pv : (vn == 1) = false := beq_eq_false_iff_ne.2 hv
            have HBV : Hid (Ex.innerB e (BV V) n = false) := by unfold Hid; rw [HBN.out]; exact decide_eq_false hv
            clear hv
            go_wp2_with fail
            go_roundg (e.names.length - (j + 1))
            case measure => omega
            case rel => exact ⟨j + 1, ρ4, _, _, l, IX, by omega, rfl, rfl, rfl, by go_num, by rw [HFS.out, HBV.out, if_neg Bool.false_ne_true, List.append_nil]; exact HL.out, HY.out⟩
          ·obtain rfl : j = e.names.length := by omega
           have hge : ¬ ((e.names.length : Int) < (e.names.length : Int)) := by omega
           have hl2 := HL.out
           rw [List.take_length] at hl2
           have HL3 := hid hl2
           obtain ⟨la, lc, e1⟩ := RowR.slice HY.out.ls
           subst e1
           obtain ⟨ia, ic, e2⟩ := XR.slice HY.out.is
           subst e2
           have hisr : wr.drew.ownsRow 0 28 8 (.slice ia IX.length ic) IX.length (flatX IX) := HY.out.is.row.1
           have HLT := hid (let_any l IX qe (w := wr.drew) (na := la) (nc := lc) (an := qan) (ad := qad) (ak := qak) (nn := qnn) (cn := qcn) (nd := qnd) (cd := qcd) (nk := qnk) (ck := qck) hisr (fun x hx => sliced_at (HY.out.is.els x hx).at) (by have := HLL.out.2; omega))
           have hob : wr.cell? ⟨wk.heap.size, 7, none⟩ = some (.slice (some ⟨g, 0, none⟩) 1 ck) := cell_of_row _ _ 7 _ _ _ HY.out.bx.blk
           have hobl := (Array.getElem?_eq_some_iff.1 HY.out.bx.blk).1
           have HSD : Hid (wr.drew.cell? ⟨wk.heap.size, 7, none⟩ = some (.slice (some ⟨g, 0, none⟩) 1 ck)) := hob
           obtain ⟨t0, t1, t2, t3, t4, t5, t6, t7⟩ := rowC HY.out.bx.row.row.1 (i := 0) (x := (⟨qe, .slice qan qnn qcn, .slice qad qnd qcd, .slice qak qnk qck⟩ : XM)) rfl
           simp only [Nat.zero_mul, Nat.zero_add] at t0 t1 t2 t3 t4 t5 t6 t7
           have hgl := (HY.out.bx.row.row.1.lt g rfl).2
           clear hlt hj hl2 hisr
           go_upto_region 41 with fail
           refine wp_region_held_drew (S := fun W => W.cell? ⟨wk.heap.size, 7, none⟩ = some (.slice (some ⟨g, 0, none⟩) 1 ck)) (by kernel_rfl) HSD.out (fun hHeld => ?_)
           refine wpAnyH_take (i := 0) (v := ?vB1) rfl (by kernel_rfl) (by kernel_rfl) (by kernel_rfl) (fun _ _ _ h => h) (Or.inl ⟨by rfl, ?hyB1⟩) (by assumption) ?rB1
           case hyB1 => (intro w hSw; (try dsimp only at hSw); go_simp; (try with_reducible rfl))
           try simp only [Act.put, List.getElem_toArray, List.getElem_cons_zero, List.getElem_cons_succ, List.setIfInBounds_toArray, List.set_cons_zero, List.set_cons_succ]
           refine wpAnyH_take (i := 1) (v := ?vB2) rfl (by kernel_rfl) (by kernel_rfl) (by kernel_rfl) (fun _ _ _ h => h) (Or.inl ⟨by rfl, ?hyB2⟩) (by assumption) ?rB2
           case hyB2 => (intro w hSw; (try dsimp only at hSw); go_simp; (try with_reducible rfl))
           try simp only [Act.put, List.getElem_toArray, List.getElem_cons_zero, List.getElem_cons_succ, List.setIfInBounds_toArray, List.set_cons_zero, List.set_cons_succ]
           refine wpAnyH_take (i := 2) (v := ?vB3) rfl (by kernel_rfl) (by kernel_rfl) (by kernel_rfl) (fun _ _ _ h => h) (Or.inl ⟨by rfl, ?hyB3⟩) (by assumption) ?rB3
           case hyB3 => (intro w hSw; (try dsimp only at hSw); go_simp; (try with_reducible rfl))
           try simp only [Act.put, List.getElem_toArray, List.getElem_cons_zero, List.getElem_cons_succ, List.setIfInBounds_toArray, List.set_cons_zero, List.set_cons_succ]
           refine wpAnyH_take (i := 3) (v := ?vB4) rfl (by kernel_rfl) (by kernel_rfl) (by kernel_rfl) (fun _ _ _ h => h) (Or.inl ⟨by rfl, ?hyB4⟩) (by assumption) ?rB4
           case hyB4 => (intro w hSw; (try dsimp only at hSw); go_simp; (try with_reducible rfl))
           try simp only [Act.put, List.getElem_toArray, List.getElem_cons_zero, List.getElem_cons_succ, List.setIfInBounds_toArray, List.set_cons_zero, List.set_cons_succ]
           refine wpAnyH_take (i := 4) (v := ?vB5) rfl (by kernel_rfl) (by kernel_rfl) (by kernel_rfl) (fun _ _ _ h => h) (Or.inl ⟨by rfl, ?hyB5⟩) (by assumption) ?rB5
           case hyB5 => (intro w hSw; (try dsimp only at hSw); go_simp; (try with_reducible rfl))
           try simp only [Act.put, List.getElem_toArray, List.getElem_cons_zero, List.getElem_cons_succ, List.setIfInBounds_toArray, List.set_cons_zero, List.set_cons_succ]
           refine wpAnyH_take (i := 5) (v := ?vB6) rfl (by kernel_rfl) (by kernel_rfl) (by kernel_rfl) (fun _ _ _ h => h) (Or.inl ⟨by rfl, ?hyB6⟩) (by assumption) ?rB6
           case hyB6 => (intro w hSw; (try dsimp only at hSw); go_simp; (try with_reducible rfl))
           try simp only [Act.put, List.getElem_toArray, List.getElem_cons_zero, List.getElem_cons_succ, List.setIfInBounds_toArray, List.set_cons_zero, List.set_cons_succ]
           refine wpAnyH_take (i := 6) (v := ?vB7) rfl (by kernel_rfl) (by kernel_rfl) (by kernel_rfl) (fun _ _ _ h => h) (Or.inl ⟨by rfl, ?hyB7⟩) (by assumption) ?rB7
           case hyB7 => (intro w hSw; (try dsimp only at hSw); go_simp; (try with_reducible rfl))
           try simp only [Act.put, List.getElem_toArray, List.getElem_cons_zero, List.getElem_cons_succ, List.setIfInBounds_toArray, List.set_cons_zero, List.set_cons_succ]
           refine wpAnyH_ready (rs := [7]) (by kernel_rfl) (by simp) ?bB8
           refine AllReadyH.cons rfl (fun K hK => ?sB9) AllReadyH.nil
           try simp only [List.getElem_toArray, List.getElem_cons_zero, List.getElem_cons_succ]
           go_simp
           refine hK.out _ _ ?SB9 (fun hHeld => ?kB9)
           case SB9 => exact HSD.out
           clear hK K
           try simp only [Act.put, List.getElem_toArray, List.getElem_cons_zero, List.getElem_cons_succ, List.setIfInBounds_toArray, List.set_cons_zero, List.set_cons_succ]
           refine wpAnyH_ready (rs := [8]) (by kernel_rfl) (by simp) ?bB10
           refine AllReadyH.cons rfl (fun K hK => ?sB11) AllReadyH.nil
           try simp only [List.getElem_toArray, List.getElem_cons_zero, List.getElem_cons_succ]
           go_simp
           go_at_call 47
           with_reducible refine HLT.out.mono ?_
           rintro e2 w8 hlp
           obtain ⟨⟨ye, ynv, ydl, ykv⟩, hye, rfl, ⟨⟨yan, ynn, ycn, u1⟩, ⟨yad, ynd, ycd, u2⟩, ⟨yak, ynk, yck, u3⟩⟩, hfr, hb8⟩ := let_free HY.out (Below.refl wr.heap.size wr).drew (Nat.le_refl _) hlp
           dsimp only at u1 u2 u3 hye hfr
           subst u1 u2 u3
           unfold XM.val exV
           dsimp only
           have hb8r : Below wr.heap.size wr w8 := ((Below.refl _ _).drew).trans hb8
           have HYE := hid hye
           have HB8 := hid hb8r
           have HX8 := hid (HY.out.bx.bel hb8r)
           have HX11 := hid (Bx.set (M := [(⟨qe, .slice qan qnn qcn, .slice qad qnd qcd, .slice qak qnk qck⟩ : XM)]) (g := g) (c := ck) (i := 0) (x := (⟨qe, .slice qan qnn qcn, .slice qad qnd qcd, .slice qak qnk qck⟩ : XM)) (y := (⟨ye, .slice yan ynn ycn, .slice yad ynd ycd, .slice yak ynk yck⟩ : XM)) (HY.out.bx.free4 (fun i => (H45.out i).1)) rfl hb8r hfr)
           have hc11 : (putR w8 g (0 * 8) (.int .i64 ye.kind) (.string ye.name) (.slice yan ynn ycn) (.int .i64 ye.const.kind) (.int .i64 ye.const.int) (.string ye.const.text) (.slice yad ynd ycd) (.slice yak ynk yck)).cell? ⟨wk.heap.size, 7, none⟩ = some (.slice (some ⟨g, 0, none⟩) 1 ck) := cell_of_row _ _ 7 _ _ _ HX11.out.blk
           unfold putR at hc11
           simp only [Nat.zero_mul, Nat.zero_add] at hc11
           have HC11 := hid hc11
           have HC8 : Hid (w8.cell? ⟨wk.heap.size, 7, none⟩ = some (.slice (some ⟨g, 0, none⟩) 1 ck)) := cell_of_row _ _ 7 _ _ _ HX8.out.blk
           clear t0 t1 t2 t3 t4 t5 t6 t7
           obtain ⟨t0, t1, t2, t3, t4, t5, t6, t7⟩ := rowC HX8.out.row.row.1 (i := 0) (x := (⟨qe, .slice qan qnn qcn, .slice qad qnd qcd, .slice qak qnk qck⟩ : XM)) rfl
           simp only [Nat.zero_mul, Nat.zero_add] at t0 t1 t2 t3 t4 t5 t6 t7
           have f8 := own_frozen HX8.out.row.row.1
           have f80 := f8 0
           have f81 := f8 1
           have f82 := f8 2
           have f83 := f8 3
           have f84 := f8 4
           have f85 := f8 5
           have f86 := f8 6
           have f87 := f8 7
           have hgl8 := (HX8.out.row.row.1.lt g rfl).2
           clear hb8 hb8r f8 hfr hye hlp hc11
           refine hK.out _ _ ?SB11 (fun hHeld => ?kB11)
           case SB11 => exact HC8.out
           clear hK K
           try simp only [Act.put, List.getElem_toArray, List.getElem_cons_zero, List.getElem_cons_succ, List.setIfInBounds_toArray, List.set_cons_zero, List.set_cons_succ]
           refine wpAnyH_take (i := 9) (v := ?vB12) rfl (by kernel_rfl) (by kernel_rfl) (by kernel_rfl) (fun _ _ _ h => h) (Or.inl ⟨by rfl, ?hyB12⟩) (by assumption) ?rB12
           case hyB12 => (intro w hSw; (try dsimp only at hSw); go_simp; (try with_reducible rfl))
           try simp only [Act.put, List.getElem_toArray, List.getElem_cons_zero, List.getElem_cons_succ, List.setIfInBounds_toArray, List.set_cons_zero, List.set_cons_succ]
           refine wpAnyH_ready (rs := [10]) (by kernel_rfl) (by simp) ?bB13
           refine AllReadyH.cons rfl (fun K hK => ?sB14) AllReadyH.nil
           try simp only [List.getElem_toArray, List.getElem_cons_zero, List.getElem_cons_succ]
           go_simp
           refine hK.out _ _ ?SB14 (fun hHeld => ?kB14)
           case SB14 => exact HC11.out
           clear hK K
           try simp only [Act.put, List.getElem_toArray, List.getElem_cons_zero, List.getElem_cons_succ, List.setIfInBounds_toArray, List.set_cons_zero, List.set_cons_succ]
           refine wpAnyH_done (by kernel_rfl) ?_ _
           have hx11 := HX11.out
           unfold putR at hx11
           simp only [Nat.zero_mul, Nat.zero_add] at hx11
           obtain ⟨w11, hw11⟩ : ∃ z, z = ((((((((w8.setCell ⟨g, 0, none⟩ (.int .i64 ye.kind)).setCell ⟨g, 1, none⟩ (.string ye.name)).setCell ⟨g, 2, none⟩ (.slice yan ynn ycn)).setCell ⟨g, 3, none⟩ (.int .i64 ye.const.kind)).setCell ⟨g, 4, none⟩ (.int .i64 ye.const.int)).setCell ⟨g, 5, none⟩ (.string ye.const.text)).setCell ⟨g, 6, none⟩ (.slice yad ynd ycd)).setCell ⟨g, 7, none⟩ (.slice yak ynk yck)) := ⟨_, rfl⟩
           rw [← hw11] at hx11 ⊢
           have HX5 : Hid (Bx w0.heap.size e (.slice na e.names.length nc) (.slice da dn dc) w5 ρ0 wk.heap.size w11 (fre4 ρ4) (.slice (some ⟨g, 0, none⟩) 1 ck) [(⟨ye, .slice yan ynn ycn, .slice yad ynd ycd, .slice yak ynk yck⟩ : XM)]) := hx11
           clear hw11 hx11 HX11 HC11 HC8 hHeld
           have HBK5 : Hid (Below wk.heap.size wk w11) := HB5.out.below.trans (HX5.out.below HLOW.out (by rw [HS5.out]; omega))
           have HB05 : Hid (Below w0.heap.size w0 w11) := HB0K.out.trans (HBK5.out.mono HB0K.out.size)
           have HBASE5 := hid (HX5.out.base HO.out HB05.out rfl)
           have hz5 := ((HBK5.out.block (w.heap.size + 1) (by have := HL2.out; omega)).trans (HBR.out.block (w.heap.size + 1) (by rw [HS2.out]; omega))).trans HZB.out
           have HZ5 := hid hz5
           have HBW5 : Hid (Below w.heap.size w w11) := (HB02.out.trans (HBR.out.mono HB02.out.size)).trans (HBK5.out.mono (Nat.le_trans HB02.out.size HBR.out.size))
           have HRZ5 : Hid (fre4 ρ4 (w.heap.size + 1) = 9) := (HX5.out.gr.role _ (by have := HL2.out; have := HS5.out; omega)).trans (HR9.out _ (by omega) (by have := HL2.out; omega))
           have HR85 : Hid (∀ b, w0.heap.size ≤ b → b < w.heap.size → fre4 ρ4 b = 8) := fun b h1 h2 => (HX5.out.gr.role b (by have := HL2.out; have := HS5.out; omega)).trans (HR8.out b h1 h2)
           have he : Ex.mk e.kind e.name e.names e.const [ye] = Ex.boxE (BV V) e := by rw [HQ5.out, HYE.out, HL3.out]
           clear x0 x1 x2 x3 x4 x5 x6 x7 hbl t0 t1 t2 t3 t4 t5 t6 t7 f80 f81 f82 f83 f84 f85 f86 f87 hgl hgl8 hob hobl
           obtain ⟨⟨_, s0⟩, ⟨_, s1⟩, ⟨_, s2⟩, ⟨_, s3⟩, ⟨_, s4⟩, ⟨_, s5⟩, ⟨_, s6⟩, ⟨_, s7⟩, q0, q1, q2, q3, q4, q5, q6, q7, sbl⟩ := blk8 hz5
           obtain ⟨o0, o1, o2, o3, o4, o5, o6, o7, obl⟩ := Row.of HX5.out.blk
           have HE5 := hid he
           clear hz5 he
           go_wp2_with fail
           refine bodyPost_ret (res1 rfl _ _ (w.heap.size + 1) 28 #[.int .i64 e.kind, .string e.name, .slice na e.names.length nc, .int .i64 e.const.kind, .int .i64 e.const.int, .string e.const.text, .slice da dn dc, .slice (some ⟨g, 0, none⟩) 1 ck] (0, 0) rfl (eight_set _ _ _ _ _ _ _ _ _ _ _ (.int .i64 e.kind) (.string e.name) (.slice na e.names.length nc) (.int .i64 e.const.kind) (.int .i64 e.const.int) (.string e.const.text) (.slice da dn dc) (.slice (some ⟨g, 0, none⟩) 1 ck) HZ5.out) exprD exprSize) rfl ?_
           show MadePost w0.heap.size (Ex.boxE (BV V) e) w _ (put8 w11 (w.heap.size + 1) (.int .i64 e.kind) (.string e.name) (.slice na e.names.length nc) (.int .i64 e.const.kind) (.int .i64 e.const.int) (.string e.const.text) (.slice da dn dc) (.slice (some ⟨g, 0, none⟩) 1 ck))
           have hon := made_box (z := w.heap.size + 1) HBW.out.size HBASE5.out (Below.refl _ _) HR85.out HRZ5.out (.int .i64 e.kind) (.string e.name) (.slice na e.names.length nc) (.int .i64 e.const.kind) (.int .i64 e.const.int) (.string e.const.text) (.slice da dn dc) (.slice (some ⟨g, 0, none⟩) 1 ck)
           have hbw := below_put8 (g := w.heap.size + 1) HBW5.out (Nat.le_succ _) (.int .i64 e.kind) (.string e.name) (.slice na e.names.length nc) (.int .i64 e.const.kind) (.int .i64 e.const.int) (.string e.const.text) (.slice da dn dc) (.slice (some ⟨g, 0, none⟩) 1 ck)
           unfold MadePost
           with_reducible refine ⟨⟨.mk e.kind e.name e.names e.const [ye], .slice na e.names.length nc, .slice da dn dc, .slice (some ⟨g, 0, none⟩) 1 ck⟩, HE5.out, ?_, ?_, hbw⟩
           ·rfl
           ·exact hon
        ·have p5 : (e.kind == 5) = false := beq_eq_false_iff_ne.2 k5
         have HQ : Hid (Ex.boxE (BV V) e = .mk e.kind e.name e.names e.const K) := by unfold Hid; rw [HEQ.out]; unfold Ex.boxK; rw [if_neg k1, if_neg k2, if_neg k8, if_neg k5]
         clear k1 k2 k8 k5
         go_wp2_with fail
         refine bodyPost_ret (res1 rfl _ _ (w.heap.size + 1) 28 #[.int .i64 e.kind, .string e.name, .slice na e.names.length nc, .int .i64 e.const.kind, .int .i64 e.const.int, .string e.const.text, .slice da dn dc, .slice ak M.length ck] (0, 0) rfl (eight_set _ _ _ _ _ _ _ _ _ _ _ (.int .i64 e.kind) (.string e.name) (.slice na e.names.length nc) (.int .i64 e.const.kind) (.int .i64 e.const.int) (.string e.const.text) (.slice da dn dc) (.slice ak M.length ck) HZR.out) exprD exprSize) rfl ?_
         show MadePost w0.heap.size (Ex.boxE (BV V) e) w _ (put8 wr (w.heap.size + 1) (.int .i64 e.kind) (.string e.name) (.slice na e.names.length nc) (.int .i64 e.const.kind) (.int .i64 e.const.int) (.string e.const.text) (.slice da dn dc) (.slice ak M.length ck))
         have hon := made_box (z := w.heap.size + 1) HBW.out.size HBASE.out (Below.refl _ _) HR8R.out HRZ.out (.int .i64 e.kind) (.string e.name) (.slice na e.names.length nc) (.int .i64 e.const.kind) (.int .i64 e.const.int) (.string e.const.text) (.slice da dn dc) (.slice ak M.length ck)
         have hbw := below_put8 (g := w.heap.size + 1) HBWR.out (Nat.le_succ _) (.int .i64 e.kind) (.string e.name) (.slice na e.names.length nc) (.int .i64 e.const.kind) (.int .i64 e.const.int) (.string e.const.text) (.slice da dn dc) (.slice ak M.length ck)
         unfold MadePost
         with_reducible refine ⟨⟨.mk e.kind e.name e.names e.const K, .slice na e.names.length nc, .slice da dn dc, .slice ak M.length ck⟩, HQ.out.symm, ?_, ?_, hbw⟩
         ·rfl
         ·exact hon
end Ew
end Go.Proofs.YtkplkgdfphbldaaGreat
