/- fix: behind its loop: what is tied is bound. -/
import Derived.Test.YtkplkgdfphbldaaGreatFJbg
import Derived.Test.YtkplkgdfphbldaaGreatFJbe
import Derived.Test.YtkplkgdfphbldaaGreatFJba
import Derived.Test.YtkplkgdfphbldaaGreatFJat
import Derived.Test.YtkplkgdfphbldaaGreatFJbb
set_option linter.unusedVariables false
set_option linter.unusedSimpArgs false
set_option linter.unnecessarySimpa false
namespace Go.Proofs.YtkplkgdfphbldaaGreat
open Go.RowKit
set_option linter.unusedVariables false
set_option linter.unusedSimpArgs false
set_option maxRecDepth 100000
namespace Ew
open Rn
structure Bq (B : Nat) (w5 : World) (ρ0 : Nat → Nat) (pb : Nat) (wx : World) (ρ : Nat → Nat) (vo1 vo2 : Value) (O : List ByteArray) (OX : List XM) (bb : Nat) (y : XM) : Prop where
  blk : ∃ a b, wx.heap[pb]? = some (.cells (partC a b vo1 vo2) 61 (0, 0))
  o1 : RowR wx ρ 4 9 1 O.length vo1 (strs O)
  o2 : XR wx ρ 5 vo2 OX
  ri : RI B wx ρ
  gr : GrS (fun r => 1 ≤ r ∧ r ≤ 7) w5 ρ0 wx ρ
  body : wx.heap[bb]? = some (.cells #[.int .i64 y.e.kind, .string y.e.name, y.nv, .int .i64 y.e.const.kind, .int .i64 y.e.const.int, .string y.e.const.text, y.dl, y.kv] 28 (0, 0))
  yr : ρ bb = 9
  yl : w5.heap.size ≤ bb
  ex : Free0 ρ wx (fun w => ExAt w y.val y.e)
theorem step_Q {W : World} {ops : Array Oper} {o : Oper} {a : Act} {K : Act → World → Prop} {Q : Exit → Act → World → Prop} {E : Prop} {v : Value} {n xb : Nat} {xs : List Value} {x : XM} (hgd : o.guard = none)
    (ho : o.op = .call { callee := .builtin .append, args := #[.tmp 92, .tmp 94], argTypes := #[26, 26] }) (hs : a.eval (.tmp 92) = v) (hx : a.eval (.tmp 94) = .slice (some ⟨xb, 0, none⟩) 1 1) (hown : W.ownsRow 0 28 8 v n xs) (hn : n ≤ 200000)
    (hxb : W.heap[xb]? = some (.cells #[.int .i64 x.e.kind, .string x.e.name, x.nv, .int .i64 x.e.const.kind, .int .i64 x.e.const.int, .string x.e.const.text, x.dl, x.kv] 28 (0, 0))) (hsl : Sliced x)
    (h : ∀ g7 c7 w7, w7.ownsRow 0 28 8 (.slice (some ⟨g7, 0, none⟩) (n + 1) c7) (n + 1) (xs ++ x.cells) → W.grownBy w7 v.ownBlock → ((Value.slice (some ⟨g7, 0, none⟩) (n + 1) c7).ownBlock = v.ownBlock ∨ (Value.slice (some ⟨g7, 0, none⟩) (n + 1) c7).ownBlock = some W.heap.size) → K (a.put o.dst (.slice (some ⟨g7, 0, none⟩) (n + 1) c7)) w7) : if Region.wanted o (yielded ops a.tmps) = true then Oper.wp Tryz.prog o a W K Q else E := by
  obtain ⟨i0, hi0, hz0, hz1, hz2⟩ := info_parts infoExpr
  refine step_append_v hgd (.tmp 92) (.tmp 94) 26 ho 0 28 i0 _ 8 128 Tryz.underlying26 hi0 hz0 hz1 hz2 rfl (by decide) v n xs hs hown (some ⟨xb, 0, none⟩) 1 1 x.cells hx rfl (.inr ⟨_, rfl, World.news_of_block hxb⟩) (XM.oneCell x hsl.1 hsl.2.1 hsl.2.2) (by simp only [maxLen]; omega) (by omega) (Nat.zero_le _) _ rfl ?_
  intro av cv w7 hown hg hl
  obtain ⟨g7, c7, e7⟩ := own_ne hown
  rw [e7] at hown hl ⊢
  exact h g7 c7 w7 hown hg hl
section
variable {B : Nat} {w5 : World} {ρ0 : Nat → Nat} {pb z : Nat} {wz : World} {ρ : Nat → Nat} {vf1 vf2 vo1 vo2 : Value} {F O : List ByteArray} {FX OX : List XM} {y : XM}
theorem Bo.q (h : Bo B w5 ρ0 pb wz ρ vf1 vf2 vo1 vo2 F O FX OX z y) : Bq B w5 ρ0 pb wz ρ vo1 vo2 O OX z y := ⟨⟨_, _, h.blk⟩, h.o1, h.o2, h.ri, h.gr, h.body, h.yr, h.yl, h.ex⟩
def fixX (F : List ByteArray) (FX : List XM) (y : XM) (vf1 v7 : Value) : XM := ⟨.mk 10 ⟨#[]⟩ F Dt.zero (FX.map (·.e) ++ [y.e]), vf1, .slice none 0 0, v7⟩
theorem bq_of (H : Bo B w5 ρ0 pb wz ρ vf1 vf2 vo1 vo2 F O FX OX z y) (h23 : ∀ b, b < w5.heap.size → ρ0 b ≠ 2 ∧ ρ0 b ≠ 3) {wa w7 : World} (hb : Below wz.heap.size wz wa) {v7 : Value} (hown : w7.ownsRow 0 28 8 v7 (FX.length + 1) (flatX FX ++ y.cells)) (hg : wa.grownBy w7 vf2.ownBlock)
    (hl : v7.ownBlock = vf2.ownBlock ∨ v7.ownBlock = some wa.heap.size) : ∃ ρ', Bq B w5 ρ0 pb (put8 w7 z (.int .i64 10) (.string ⟨#[]⟩) vf1 (.int .i64 0) (.int .i64 0) (.string ⟨#[]⟩) (.slice none 0 0) v7) ρ' vo1 vo2 O OX z (fixX F FX y vf1 v7) := by
  obtain ⟨wf, hwf⟩ : ∃ wf, wf = put8 w7 z (.int .i64 10) (.string ⟨#[]⟩) vf1 (.int .i64 0) (.int .i64 0) (.string ⟨#[]⟩) (.slice none 0 0) v7 := ⟨_, rfl⟩
  obtain ⟨ρ', hρ⟩ : ∃ ρ' : Nat → Nat, ρ' = fun b => if ρ b = 2 ∨ ρ b = 3 then 0 else ρ b := ⟨_, rfl⟩
  have kr : ∀ b, ρ b ≠ 2 → ρ b ≠ 3 → ρ' b = ρ b := fun b h2 h3 => by subst hρ; exact if_neg fun h => h.elim h2 h3
  have k23 : ∀ b, ρ b = 2 ∨ ρ b = 3 ∨ ρ b = 0 → ρ' b = 0 := fun b h => by
    subst hρ
    show (if _ then _ else _) = _
    split
    · rfl
    · omega
  have hzl := (Array.getElem?_eq_some_iff.1 H.body).1
  have k1 : ∀ b, b < wz.heap.size → ρ b ≠ 3 → w7.heap[b]? = wz.heap[b]? := fun b h1 h3 => (hg.block b (Nat.lt_of_lt_of_le h1 hb.size) fun e => h3 (H.f2.row.2 b e.symm)).trans (hb.block b h1)
  have hp := put8_kp (g := z) (w := w7) (.int .i64 10) (.string ⟨#[]⟩) vf1 (.int .i64 0) (.int .i64 0) (.string ⟨#[]⟩) (.slice none 0 0) v7
  have hpg := put8_gr (r := 1) (g := z) (w := w7) (ρ := fun _ => 1) rfl (.int .i64 10) (.string ⟨#[]⟩) vf1 (.int .i64 0) (.int .i64 0) (.string ⟨#[]⟩) (.slice none 0 0) v7
  have hbody := eight_set w7 z 28 _ _ _ _ _ _ _ _ (.int .i64 10) (.string ⟨#[]⟩) vf1 (.int .i64 0) (.int .i64 0) (.string ⟨#[]⟩) (.slice none 0 0) v7 ((k1 z hzl (by rw [H.yr]; decide)).trans H.body)
  have hos := hpg.os.trans (hg.os.trans hb.os)
  have htp := hpg.tape.trans (hg.tape.trans hb.tape)
  have hou := hpg.output.trans (hg.output.trans hb.output)
  have hbody2 : (put8 w7 z (.int .i64 10) (.string ⟨#[]⟩) vf1 (.int .i64 0) (.int .i64 0) (.string ⟨#[]⟩) (.slice none 0 0) v7).heap[z]? = _ := hbody
  rw [← hwf] at hp hos htp hou hbody2 ⊢
  have k2 : ∀ b, b < wz.heap.size → ρ b ≠ 3 → ρ b ≠ 9 → wf.heap[b]? = wz.heap[b]? := fun b h1 h3 h9 => (hp.2 b fun e => h9 (by rw [e]; exact H.yr)).trans (k1 b h1 h3)
  have hsz : wz.heap.size ≤ wf.heap.size := by rw [hp.1]; exact Nat.le_trans hb.size hg.size
  have fre : ∀ {P : World → Prop}, Free0 ρ wz P → Free0 ρ' wf P := fun h => On.same h hsz fun b hb hl => ⟨k23 b (.inr (.inr hb)), k2 b hl (by rw [hb]; decide) (by rw [hb]; decide)⟩
  have row : ∀ {r ty size n : Nat} {v : Value} {xs : List Value}, RowR wz ρ r ty size n v xs → r ≠ 2 → r ≠ 3 → r ≠ 9 → RowR wf ρ' r ty size n v xs := fun h h2 h3 h9 =>
    RowR.keep h fun b hl e => ⟨k2 b hl (by rw [e]; exact h3) (by rw [e]; exact h9), (kr b (by rw [e]; exact h2) (by rw [e]; exact h3)).trans e⟩
  have hpl := (Array.getElem?_eq_some_iff.1 H.blk).1
  have hv7 : ∀ b, v7.ownBlock = some b → ρ' b = 0 ∧ b ≠ z := by
    intro b e
    rcases hl with h | h
    · have h3 := H.f2.row.2 b (h.symm.trans e)
      exact ⟨k23 b (.inr (.inl h3)), fun ez => by rw [ez, H.yr] at h3; cases h3⟩
    · rw [h] at e
      have e := Option.some.inj e
      have := hb.size
      exact ⟨k23 b (.inr (.inr (H.ri.hi b (by omega)))), by omega⟩
  refine ⟨ρ', ⟨_, _, (k2 pb hpl (by rw [H.rp]; decide) (by rw [H.rp]; decide)).trans H.blk⟩, row H.o1 (by decide) (by decide) (by decide), ⟨row H.o2.row (by decide) (by decide) (by decide), fun x hx => fre (H.o2.els x hx)⟩, ⟨fun b hb => k23 b (.inr (.inr (H.ri.low b hb))), fun b hb => k23 b (.inr (.inr (H.ri.hi b (Nat.le_trans hsz hb)))), Nat.le_trans H.ri.le hsz⟩, ⟨hos.trans H.gr.os, htp.trans H.gr.tape, hou.trans H.gr.output, Nat.le_trans H.gr.size hsz, fun b hb hn => ?_, fun b hb => ?_⟩, hbody2, (kr z (by rw [H.yr]; decide) (by rw [H.yr]; decide)).trans H.yr, H.yl, ?_⟩
  · have hr := H.gr.role b hb
    refine (hp.2 b fun e => ?_).trans ((k1 b (Nat.lt_of_lt_of_le hb H.gr.size) ?_).trans (H.gr.keep b hb hn))
    · have := H.yl
      omega
    · rw [hr]
      exact (h23 b hb).2
  · have hr := H.gr.role b hb
    exact (kr b (by rw [hr]; exact (h23 b hb).1) (by rw [hr]; exact (h23 b hb).2)).trans hr
  · have hn := On.names (S := fun b => ρ' b = 0) (own_same (w' := wf) H.f1.1 fun b e => k2 b (H.f1.1.lt b e).2 (by rw [H.f1.2 b e]; decide) (by rw [H.f1.2 b e]; decide)) fun b e => k23 b (.inl (H.f1.2 b e))
    have hown2 : wf.ownsRow 0 28 8 v7 (FX ++ [y]).length (flatX (FX ++ [y])) := by
      rw [flatX_app, flatX_one, List.length_append]
      exact own_same hown fun b e => hp.2 b (hv7 b e).2
    have hk := On.kids (S := fun b => ρ' b = 0) hown2 (fun b e => (hv7 b e).1) fun x hx => by
      simp only [List.mem_append, List.mem_singleton] at hx
      rcases hx with hx | rfl
      · exact fre (H.f2.els x hx)
      · exact fre H.ex
    rw [List.map_append] at hk
    exact On.mk hn.1 On.zero hn.2 hk
theorem grown20 (H : Bo B w5 ρ0 pb wz ρ vf1 vf2 vo1 vo2 F O FX OX z y) {wa w7 : World} (hb : Below wz.heap.size wz wa) (hg : wa.grownBy w7 vf2.ownBlock) : w7.heap[z]? = some (.cells #[.int .i64 y.e.kind, .string y.e.name, y.nv, .int .i64 y.e.const.kind, .int .i64 y.e.const.int, .string y.e.const.text, y.dl, y.kv] 28 (0, 0)) ∧ w7.heap[pb]? = some (.cells (partC vf1 vf2 vo1 vo2) 61 (0, 0)) := by
  have k1 : ∀ b, b < wz.heap.size → ρ b ≠ 3 → w7.heap[b]? = wz.heap[b]? := fun b h1 h3 => (hg.block b (Nat.lt_of_lt_of_le h1 hb.size) fun e => h3 (H.f2.row.2 b e.symm)).trans (hb.block b h1)
  exact ⟨(k1 z (Array.getElem?_eq_some_iff.1 H.body).1 (by rw [H.yr]; decide)).trans H.body, (k1 pb (Array.getElem?_eq_some_iff.1 H.blk).1 (by rw [H.rp]; decide)).trans H.blk⟩
theorem s20 {w7 : World} (h : w7.heap[pb]? = some (.cells (partC vf1 vf2 vo1 vo2) 61 (0, 0))) (hz : pb ≠ z) {b0 b1 b2 b3 b4 b5 b6 b7 : Value} : ((((((((w7.setCell ⟨z, 0, none⟩ b0).setCell ⟨z, 1, none⟩ b1).setCell ⟨z, 2, none⟩ b2).setCell ⟨z, 3, none⟩ b3).setCell ⟨z, 4, none⟩ b4).setCell ⟨z, 5, none⟩ b5).setCell ⟨z, 6, none⟩ b6).setCell ⟨z, 7, none⟩ b7).cell? ⟨pb, 2, none⟩ = some vf1 ∧ ((((((((w7.setCell ⟨z, 0, none⟩ b0).setCell ⟨z, 1, none⟩ b1).setCell ⟨z, 2, none⟩ b2).setCell ⟨z, 3, none⟩ b3).setCell ⟨z, 4, none⟩ b4).setCell ⟨z, 5, none⟩ b5).setCell ⟨z, 6, none⟩ b6).setCell ⟨z, 7, none⟩ b7).cell? ⟨pb, 7, none⟩ = some vf2 := by
  have k := ((put8_kp (g := z) (w := w7) b0 b1 b2 b3 b4 b5 b6 b7).2 pb hz).trans h
  exact ⟨cell_of_row _ pb 2 _ _ _ k, cell_of_row _ pb 7 _ _ _ k⟩
noncomputable def fix20 : Code := ((Tryz.f25.body.map regsOf).getD []).getD 20 .skip
set_option maxHeartbeats 40000000 in
set_option maxRecDepth 1000000 in
theorem reg20 {fa : Option Addr} {fn fc : Nat} {ye : Ex} {yan yad yak : Option Addr} {ynn ycn ynd ycd ynk yck : Nat} (H : Bo B w5 ρ0 pb wz ρ (.slice fa fn fc) vf2 vo1 vo2 F O FX OX z (⟨ye, .slice yan ynn ycn, .slice yad ynd ycd, .slice yak ynk yck⟩ : XM)) (hF : FX.length ≤ 100000) (h23 : ∀ b, b < w5.heap.size → ρ0 b ≠ 2 ∧ ρ0 b ≠ 3) {c0 c1 c2 c3 c5 c6 c7 c8 c9 c10 c12 c13 c14 c15 c16 c17 c18 c19 c20 c21 c22 c23 c24 c25 c26 c27 c28 c29 c30 c31 c32 c33 c34 c35 c36 c37 c38 c39 c40 c41 c42 c43 c44 c45 c46 c47 c48 c49 c50 c51 c52 c53 c54 c55 c56 c57 c58 c59 c60 c61 c62 c63 c64 c65 c66 c67 c68 c69 c70 c71 c72 c73 c74 c75 c76 c77 c78 c79 c80 c81 c82 c83 c84 c85 c86 c87 c88 c89 c90 c91 c92 c93 c94 c95 c96 c97 c98 c99 c100 c101 c102 c103 c104 : Value} {Q : Exit → Act → World → Prop}
    (hQ : ∀ (u87 u88 u89 u90 u91 u92 u93 u94 u95 u96 v7 : Value) (wz : World) (ρ' : Nat → Nat), Bq B w5 ρ0 pb wz ρ' vo1 vo2 O OX z (fixX F FX (⟨ye, .slice yan ynn ycn, .slice yad ynd ycd, .slice yak ynk yck⟩ : XM) (.slice fa fn fc) v7) → Q .normal ⟨List.toArray (c0 :: c1 :: c2 :: c3 :: .pointer (some ⟨pb, 0, none⟩) :: c5 :: c6 :: c7 :: c8 :: c9 :: c10 :: .pointer (some ⟨z, 0, none⟩) :: c12 :: c13 :: c14 :: c15 :: c16 :: c17 :: c18 :: c19 :: c20 :: c21 :: c22 :: c23 :: c24 :: c25 :: c26 :: c27 :: c28 :: c29 :: c30 :: c31 :: c32 :: c33 :: c34 :: c35 :: c36 :: c37 :: c38 :: c39 :: c40 :: c41 :: c42 :: c43 :: c44 :: c45 :: c46 :: c47 :: c48 :: c49 :: c50 :: c51 :: c52 :: c53 :: c54 :: c55 :: c56 :: c57 :: c58 :: c59 :: c60 :: c61 :: c62 :: c63 :: c64 :: c65 :: c66 :: c67 :: c68 :: c69 :: c70 :: c71 :: c72 :: c73 :: c74 :: c75 :: c76 :: c77 :: c78 :: c79 :: c80 :: c81 :: c82 :: c83 :: c84 :: c85 :: c86 :: u87 :: u88 :: u89 :: u90 :: u91 :: u92 :: u93 :: u94 :: u95 :: u96 :: c97 :: c98 :: c99 :: c100 :: c101 :: c102 :: c103 :: c104 :: []), []⟩ wz) :
    Code.wp Tryz.prog fix20 Q ⟨List.toArray (c0 :: c1 :: c2 :: c3 :: .pointer (some ⟨pb, 0, none⟩) :: c5 :: c6 :: c7 :: c8 :: c9 :: c10 :: .pointer (some ⟨z, 0, none⟩) :: c12 :: c13 :: c14 :: c15 :: c16 :: c17 :: c18 :: c19 :: c20 :: c21 :: c22 :: c23 :: c24 :: c25 :: c26 :: c27 :: c28 :: c29 :: c30 :: c31 :: c32 :: c33 :: c34 :: c35 :: c36 :: c37 :: c38 :: c39 :: c40 :: c41 :: c42 :: c43 :: c44 :: c45 :: c46 :: c47 :: c48 :: c49 :: c50 :: c51 :: c52 :: c53 :: c54 :: c55 :: c56 :: c57 :: c58 :: c59 :: c60 :: c61 :: c62 :: c63 :: c64 :: c65 :: c66 :: c67 :: c68 :: c69 :: c70 :: c71 :: c72 :: c73 :: c74 :: c75 :: c76 :: c77 :: c78 :: c79 :: c80 :: c81 :: c82 :: c83 :: c84 :: c85 :: c86 :: c87 :: c88 :: c89 :: c90 :: c91 :: c92 :: c93 :: c94 :: c95 :: c96 :: c97 :: c98 :: c99 :: c100 :: c101 :: c102 :: c103 :: c104 :: []), []⟩ wz := by
  have HH := Lib.hid H
  have HF := Lib.hid hF
  have H23 := Lib.hid h23
  have HQ := Lib.hid hQ
  have hbel : Below wz.heap.size wz ((wz.alloc (.cells #[.int .i64 ye.kind, .string ye.name, .slice yan ynn ycn, .int .i64 ye.const.kind, .int .i64 ye.const.int, .string ye.const.text, .slice yad ynd ycd, .slice yak ynk yck] 28)).drew) := ((Below.refl _ _).alloc (Nat.le_refl _) _).drew
  have HBEL := Lib.hid hbel
  have HOWN : Hid (((wz.alloc (.cells #[.int .i64 ye.kind, .string ye.name, .slice yan ynn ycn, .int .i64 ye.const.kind, .int .i64 ye.const.int, .string ye.const.text, .slice yad ynd ycd, .slice yak ynk yck] 28)).drew).ownsRow 0 28 8 vf2 FX.length (flatX FX)) := own_same H.f2.row.1 fun b e => hbel.block b (H.f2.row.1.lt b e).2
  have HNEW : Hid (((wz.alloc (.cells #[.int .i64 ye.kind, .string ye.name, .slice yan ynn ycn, .int .i64 ye.const.kind, .int .i64 ye.const.int, .string ye.const.text, .slice yad ynd ycd, .slice yak ynk yck] 28)).drew).heap[wz.heap.size]? = some (.cells #[.int .i64 ye.kind, .string ye.name, .slice yan ynn ycn, .int .i64 ye.const.kind, .int .i64 ye.const.int, .string ye.const.text, .slice yad ynd ycd, .slice yak ynk yck] 28 (0, 0))) := heap_alloc_new wz _
  have HPZ : Hid (pb ≠ z) := fun e => by have h1 := H.rp; rw [e, H.yr] at h1; cases h1
  have HS : Hid ((wz.drew).cell? ⟨pb, 2, none⟩ = some (.slice fa fn fc) ∧ (wz.drew).cell? ⟨pb, 7, none⟩ = some vf2) := ⟨cell_of_row _ pb 2 _ _ _ H.blk, cell_of_row _ pb 7 _ _ _ H.blk⟩
  have HSA : Hid (((wz.alloc (.cells #[.int .i64 ye.kind, .string ye.name, .slice yan ynn ycn, .int .i64 ye.const.kind, .int .i64 ye.const.int, .string ye.const.text, .slice yad ynd ycd, .slice yak ynk yck] 28)).drew).cell? ⟨pb, 2, none⟩ = some (.slice fa fn fc) ∧ ((wz.alloc (.cells #[.int .i64 ye.kind, .string ye.name, .slice yan ynn ycn, .int .i64 ye.const.kind, .int .i64 ye.const.int, .string ye.const.text, .slice yad ynd ycd, .slice yak ynk yck] 28)).drew).cell? ⟨pb, 7, none⟩ = some vf2) := by
    have k := (hbel.block pb (Array.getElem?_eq_some_iff.1 H.blk).1).trans H.blk
    exact ⟨cell_of_row _ pb 2 _ _ _ k, cell_of_row _ pb 7 _ _ _ k⟩
  obtain ⟨x0, x1, x2, x3, x4, x5, x6, x7, xl⟩ := (Row.of H.body).bel (Below.refl wz.heap.size wz).drew
  clear H hF h23 hQ hbel
  unfold fix20
  conv => arg 2; whnf
  refine wp_region_noPanic ?_
  refine wp_region_held_drew (S := fun W => W.cell? ⟨pb, 2, none⟩ = some (.slice fa fn fc) ∧ W.cell? ⟨pb, 7, none⟩ = some vf2) (by kernel_rfl) HS.out (fun hHeld => ?_)
  refine wpAnyH_take (i := 0) (v := ?v1) rfl (by kernel_rfl) (by kernel_rfl) (by kernel_rfl) (fun _ _ _ h => h) (Or.inl ⟨by rfl, ?hy1⟩) (by assumption) ?r1
  case hy1 => (intro w hSw; (try dsimp only at hSw); go_simp; (try with_reducible rfl))
  try simp only [Act.put, List.getElem_toArray, List.getElem_cons_zero, List.getElem_cons_succ, List.setIfInBounds_toArray, List.set_cons_zero, List.set_cons_succ]
  refine wpAnyH_take (i := 1) (v := ?v2) rfl (by kernel_rfl) (by kernel_rfl) (by kernel_rfl) (fun _ _ _ h => h) (Or.inl ⟨by rfl, ?hy2⟩) (by assumption) ?r2
  case hy2 => (intro w hSw; (try dsimp only at hSw); go_simp; (try with_reducible rfl))
  try simp only [Act.put, List.getElem_toArray, List.getElem_cons_zero, List.getElem_cons_succ, List.setIfInBounds_toArray, List.set_cons_zero, List.set_cons_succ]
  refine wpAnyH_take (i := 2) (v := ?v3) rfl (by kernel_rfl) (by kernel_rfl) (by kernel_rfl) (fun _ _ _ h => h) (Or.inl ⟨by rfl, ?hy3⟩) (by assumption) ?r3
  case hy3 => (intro w hSw; (try dsimp only at hSw); go_simp; (try with_reducible rfl))
  try simp only [Act.put, List.getElem_toArray, List.getElem_cons_zero, List.getElem_cons_succ, List.setIfInBounds_toArray, List.set_cons_zero, List.set_cons_succ]
  refine wpAnyH_take (i := 3) (v := ?v4) rfl (by kernel_rfl) (by kernel_rfl) (by kernel_rfl) (fun _ _ _ h => h) (Or.inl ⟨by rfl, ?hy4⟩) (by assumption) ?r4
  case hy4 => (intro w hSw; (try dsimp only at hSw); go_simp; (try with_reducible rfl))
  try simp only [Act.put, List.getElem_toArray, List.getElem_cons_zero, List.getElem_cons_succ, List.setIfInBounds_toArray, List.set_cons_zero, List.set_cons_succ]
  refine wpAnyH_take (i := 4) (v := ?v5) rfl (by kernel_rfl) (by kernel_rfl) (by kernel_rfl) (fun _ _ _ h => h) (Or.inl ⟨by rfl, ?hy5⟩) (by assumption) ?r5
  case hy5 => (intro w hSw; (try dsimp only at hSw); go_simp; (try with_reducible rfl))
  try simp only [Act.put, List.getElem_toArray, List.getElem_cons_zero, List.getElem_cons_succ, List.setIfInBounds_toArray, List.set_cons_zero, List.set_cons_succ]
  refine wpAnyH_take (i := 5) (v := ?v6) rfl (by kernel_rfl) (by kernel_rfl) (by kernel_rfl) (fun _ _ _ h => h) (Or.inl ⟨by rfl, ?hy6⟩) (by assumption) ?r6
  case hy6 => (intro w hSw; (try dsimp only at hSw); go_simp; (try with_reducible rfl))
  try simp only [Act.put, List.getElem_toArray, List.getElem_cons_zero, List.getElem_cons_succ, List.setIfInBounds_toArray, List.set_cons_zero, List.set_cons_succ]
  refine wpAnyH_ready (rs := [6]) (by kernel_rfl) (by simp) ?b7
  refine AllReadyH.cons rfl (fun K hK => ?s8) AllReadyH.nil
  try simp only [List.getElem_toArray, List.getElem_cons_zero, List.getElem_cons_succ]
  go_simp
  refine hK.out _ _ ?S8 (fun hHeld => ?k8)
  case S8 => exact HS.out
  clear hK K
  try simp only [Act.put, List.getElem_toArray, List.getElem_cons_zero, List.getElem_cons_succ, List.setIfInBounds_toArray, List.set_cons_zero, List.set_cons_succ]
  refine wpAnyH_ready (rs := [7]) (by kernel_rfl) (by simp) ?b9
  refine AllReadyH.cons rfl (fun K hK => ?s10) AllReadyH.nil
  try simp only [List.getElem_toArray, List.getElem_cons_zero, List.getElem_cons_succ]
  go_simp
  refine hK.out _ _ ?S10 (fun hHeld => ?k10)
  case S10 => exact HSA.out
  clear hK K
  try simp only [Act.put, List.getElem_toArray, List.getElem_cons_zero, List.getElem_cons_succ, List.setIfInBounds_toArray, List.set_cons_zero, List.set_cons_succ]
  refine wpAnyH_ready (rs := [8]) (by kernel_rfl) (by simp) ?b11
  refine AllReadyH.cons (o := { dst := some 95, op := .call { callee := .builtin .append, args := #[.tmp 92, .tmp 94], argTypes := #[26, 26] }, type := 26, pos := "fix.go:43", after := #[{ on := 5, ground := .data }, { on := 7, ground := .data }], guard := none }) rfl (fun K hK => ?s12) AllReadyH.nil
  refine step_Q (x := (⟨ye, .slice yan ynn ycn, .slice yad ynd ycd, .slice yak ynk yck⟩ : XM)) (xb := wz.heap.size) rfl rfl ?_ ?_ HOWN.out ?_ HNEW.out ⟨⟨_, _, _, rfl⟩, ⟨_, _, _, rfl⟩, ⟨_, _, _, rfl⟩⟩ ?_
  · rfl
  · rfl
  · have := HF.out; omega
  intro g7 k7 w7 hown hgr hlb
  obtain ⟨hz7, hp7⟩ := grown20 HH.out HBEL.out hgr
  have HZ7 := Lib.hid hz7
  have HP7 := Lib.hid hp7
  have HBQ := Lib.hid (bq_of HH.out H23.out HBEL.out hown hgr hlb)
  have hc2 := cell_of_row _ pb 2 _ _ _ hp7
  have hc7 := cell_of_row _ pb 7 _ _ _ hp7
  clear x0 x1 x2 x3 x4 x5 x6 x7 xl
  obtain ⟨⟨_, s0⟩, ⟨_, s1⟩, ⟨_, s2⟩, ⟨_, s3⟩, ⟨_, s4⟩, ⟨_, s5⟩, ⟨_, s6⟩, ⟨_, s7⟩, q0, q1, q2, q3, q4, q5, q6, q7, sbl⟩ := blk8 hz7
  clear hown hgr hlb hz7
  refine hK.out _ _ ?S12 (fun hHeld => ?k12)
  case S12 => exact ⟨hc2, hc7⟩
  clear hK K
  try simp only [Act.put, List.getElem_toArray, List.getElem_cons_zero, List.getElem_cons_succ, List.setIfInBounds_toArray, List.set_cons_zero, List.set_cons_succ]
  refine wpAnyH_take (i := 9) (v := ?v13) rfl (by kernel_rfl) (by kernel_rfl) (by kernel_rfl) (fun _ _ _ h => h) (Or.inl ⟨by rfl, ?hy13⟩) (by assumption) ?r13
  case hy13 => (intro w hSw; (try dsimp only at hSw); go_simp; (try with_reducible rfl))
  try simp only [Act.put, List.getElem_toArray, List.getElem_cons_zero, List.getElem_cons_succ, List.setIfInBounds_toArray, List.set_cons_zero, List.set_cons_succ]
  refine wpAnyH_ready (rs := [10]) (by kernel_rfl) (by simp) ?b14
  refine AllReadyH.cons rfl (fun K hK => ?s15) AllReadyH.nil
  try simp only [List.getElem_toArray, List.getElem_cons_zero, List.getElem_cons_succ]
  go_simp
  refine hK.out _ _ ?S15 (fun hHeld => ?k15)
  case S15 => exact s20 HP7.out HPZ.out
  clear hK K
  try simp only [Act.put, List.getElem_toArray, List.getElem_cons_zero, List.getElem_cons_succ, List.setIfInBounds_toArray, List.set_cons_zero, List.set_cons_succ]
  refine wpAnyH_done (by kernel_rfl) ?_ _
  refine NoPanic.normal ?_
  obtain ⟨ρ', hbq⟩ := HBQ.out
  unfold put8 at hbq
  with_reducible exact HQ.out _ _ _ _ _ _ _ _ _ _ _ _ ρ' hbq
end
end Ew
end Go.Proofs.YtkplkgdfphbldaaGreat
namespace Go.Proofs.YtkplkgdfphbldaaGreat
open Go.RowKit
set_option linter.unusedVariables false
set_option linter.unusedSimpArgs false
set_option maxRecDepth 100000
namespace Ew
open Rn
theorem own_ne5 {w : World} {B e size n : Nat} {v : Value} {xs : List Value} (h : w.ownsRow B e size v (0 + n + 1) xs) : ∃ g c, v = .slice (some ⟨g, 0, none⟩) (0 + n + 1) c := own_ne h
theorem own_le {w : World} {B B' e size n : Nat} {v : Value} {xs : List Value} (h : w.ownsRow B e size v n xs) (hB : B' ≤ B) : w.ownsRow B' e size v n xs := by
  obtain ⟨h1, h2 | ⟨g, cap, cur, e1, e2, h⟩⟩ := h
  · exact ⟨h1, .inl h2⟩
  · exact ⟨h1, .inr ⟨g, cap, cur, e1, Nat.le_trans hB e2, h⟩⟩
theorem let_one {w2 wa w4 : World} {g n : Nat} {v : Value} {M : List XM} (hown : w4.ownsRow w2.heap.size 28 8 v n ([] ++ flatX M)) (hg : wa.grownBy w4 (some g)) (hb : Below w2.heap.size w2 wa) {k : Nat} (hz : wa.heap.size = w2.heap.size + k) (hk : 0 ≤ k) (hgl : w2.heap.size ≤ g) : w4.ownsRow w2.heap.size 28 8 v n (flatX M) ∧ Below w2.heap.size w2 w4 :=
  ⟨by simpa using hown, hb.grown hg (by omega) fun q hq => by cases hq; exact hgl⟩
theorem let_two {w2 w4 wa w5 : World} {v4 v5 : Value} {n m : Nat} {M : List XM} {y : XM} (h : w4.ownsRow w2.heap.size 28 8 v4 n (flatX M) ∧ Below w2.heap.size w2 w4) (hown : w5.ownsRow w2.heap.size 28 8 v5 m (flatX M ++ y.cells)) (hg : wa.grownBy w5 v4.ownBlock) (hb : Below w4.heap.size w4 wa) : w5.ownsRow w2.heap.size 28 8 v5 m (flatX (M ++ [y])) ∧ Below w2.heap.size w2 w5 :=
  ⟨by rw [flatX_app, flatX_one]; exact hown, (h.2.trans (hb.mono h.2.size)).grown hg (Nat.le_trans h.2.size hb.size) fun q hq => (h.1.lt q hq).1⟩
def LetPost (l : List ByteArray) (nv : Value) (M : List XM) (y : XM) (w : World) (en : Ending) (w' : World) : Prop :=
  (l.length = 0 ∧ en = .returned y.val ∧ Below w.heap.size w w') ∨ (l.length ≠ 0 ∧ ∃ g c, en = .returned (.agg #[.int .i64 8, .string ⟨#[]⟩, nv, .int .i64 0, .int .i64 0, .string ⟨#[]⟩, .slice none 0 0, .slice (some ⟨g, 0, none⟩) (M.length + 1) c]) ∧ w'.ownsRow w.heap.size 28 8 (.slice (some ⟨g, 0, none⟩) (M.length + 1) c) (M.length + 1) (flatX (M ++ [y])) ∧ Below w.heap.size w w')
theorem let_end {l : List ByteArray} {ll : Nat} {na : Option Addr} {nc g5 c5 : Nat} {M : List XM} {y : XM} {w w2 w5 : World} (hll : l.length = ll) (h0 : ¬ l.length = 0) (hb : Below w.heap.size w w2) (hs : w2.heap.size = w.heap.size + 2) (h : w5.ownsRow w2.heap.size 28 8 (.slice (some ⟨g5, 0, none⟩) (0 + M.length + 1) c5) (0 + M.length + 1) (flatX (M ++ [y])) ∧ Below w2.heap.size w2 w5) :
    LetPost l (.slice na ll nc) M y w (.returned (.agg #[.int .i64 8, .string ⟨#[]⟩, .slice na ll nc, .int .i64 0, .int .i64 0, .string ⟨#[]⟩, .slice none 0 0, .slice (some ⟨g5, 0, none⟩) (M.length + 1) c5])) (put8 w5 (w.heap.size + 1) (.int .i64 8) (.string ⟨#[]⟩) (.slice na ll nc) (.int .i64 0) (.int .i64 0) (.string ⟨#[]⟩) (.slice none 0 0) (.slice (some ⟨g5, 0, none⟩) (M.length + 1) c5)) := by
  obtain ⟨h1, h2⟩ := h
  rw [Nat.zero_add] at h1
  refine .inr ⟨h0, g5, c5, rfl, own_same (own_le h1 hb.size) fun b e => (put8_kp _ _ _ _ _ _ _ _).2 b (by have := (h1.lt b e).1; omega), below_put8 (hb.trans (h2.mono hb.size)) (Nat.le_succ _) _ _ _ _ _ _ _ _⟩
set_option maxHeartbeats 16000000 in
theorem let_any (l : List ByteArray) (M : List XM) (e : Ex) {w : World} {na : Option Addr} {nc : Nat} {ai : Option Addr} {ci : Nat} {an ad ak : Option Addr} {nn cn nd cd nk ck : Nat} (hM : w.ownsRow 0 28 8 (.slice ai M.length ci) M.length (flatX M)) (hs : ∀ x ∈ M, Sliced x) (hml : M.length ≤ 100000) :
    Calls Tryz.prog 47 #[.slice na l.length nc, .slice ai M.length ci, .agg #[.int .i64 e.kind, .string e.name, .slice an nn cn, .int .i64 e.const.kind, .int .i64 e.const.int, .string e.const.text, .slice ad nd cd, .slice ak nk ck]] w (LetPost l (.slice na l.length nc) M ⟨e, .slice an nn cn, .slice ad nd cd, .slice ak nk ck⟩ w) := by
  obtain ⟨i1, hj0, hy0, hy1, hy2⟩ := info_parts infoExpr
  have HJ := Lib.hid hj0
  have HY0 := Lib.hid hy0
  have HY1 := Lib.hid hy1
  have HY2 := Lib.hid hy2
  obtain ⟨w1, B1⟩ := boxed w #[.int .i64 e.kind, .string e.name, .slice an nn cn, .int .i64 e.const.kind, .int .i64 e.const.int, .string e.const.text, .slice ad nd cd, .slice ak nk ck] 28
  obtain ⟨w2, B2⟩ := boxed w1 #[.int .i64 0, .string ⟨#[]⟩, .slice none 0 0, .int .i64 0, .int .i64 0, .string ⟨#[]⟩, .slice none 0 0, .slice none 0 0] 28
  have hB02 : Below w.heap.size w w2 := B1.below.trans (B2.below.mono B1.below.size)
  have hsz2 : w2.heap.size = w.heap.size + 2 := by rw [B2.size, B1.size]
  have hZ : w2.heap[w.heap.size + 1]? = some (.cells #[.int .i64 0, .string ⟨#[]⟩, .slice none 0 0, .int .i64 0, .int .i64 0, .string ⟨#[]⟩, .slice none 0 0, .slice none 0 0] 28 (0, 0)) := by
    have := B2.blk
    rw [B1.size] at this
    exact this
  have hP := (B2.below.block _ (by rw [B1.size]; omega)).trans B1.blk
  have HBA := Lib.hid B1
  have HBB := Lib.hid B2
  have HZB := Lib.hid hZ
  have HPB := Lib.hid hP
  have HB02 := Lib.hid hB02
  have HS2 := Lib.hid hsz2
  have HML := Lib.hid hml
  have HBX := Lib.hid (Row.of hP)
  obtain ⟨x0, x1, x2, x3, x4, x5, x6, x7, hbl⟩ := Row.of hP
  by_cases h0 : l.length = 0
  · have H0 := Lib.hid h0
    obtain ⟨⟨_, s0⟩, ⟨_, s1⟩, ⟨_, s2⟩, ⟨_, s3⟩, ⟨_, s4⟩, ⟨_, s5⟩, ⟨_, s6⟩, ⟨_, s7⟩, q0, q1, q2, q3, q4, q5, q6, q7, sbl⟩ := blk8 hZ
    rw [h0]
    clear B1 B2 hB02 hsz2 hZ hP hj0 hy0 hy1 hy2 hM hs hml h0
    go_enter Tryz.func47, Tryz.ntmps47
    go_upto_region 1 with fail
    rw [← HBA.out.eq, ← HBB.out.eq]
    go_wp2_with fail
    refine bodyPost_ret (res1 rfl _ _ (w.heap.size + 1) 28 #[.int .i64 e.kind, .string e.name, .slice an nn cn, .int .i64 e.const.kind, .int .i64 e.const.int, .string e.const.text, .slice ad nd cd, .slice ak nk ck] (0, 0) rfl (eight_set _ _ _ _ _ _ _ _ _ _ _ (.int .i64 e.kind) (.string e.name) (.slice an nn cn) (.int .i64 e.const.kind) (.int .i64 e.const.int) (.string e.const.text) (.slice ad nd cd) (.slice ak nk ck) HZB.out) exprD exprSize) rfl ?_
    exact .inl ⟨H0.out, rfl, below_put8 HB02.out (Nat.le_succ _) _ _ _ _ _ _ _ _⟩
  · have H0 := Lib.hid h0
    have k0 : ((l.length : Int) == 0) = false := by rw [beq_eq_false_iff_ne]; omega
    obtain ⟨ll, hll⟩ : ∃ ll, l.length = ll := ⟨_, rfl⟩
    rw [hll] at k0
    rw [hll]
    have HLL := Lib.hid hll
    have hM2 : w2.ownsRow 0 28 8 (.slice ai M.length ci) M.length (flatX M) := own_same hM fun b e => hB02.block b (hM.lt b e).2
    have src : ∀ W, Below w2.heap.size w2 W → (ai = none ∧ ci = 0 ∧ flatX M = []) ∨ ∃ ad, ai = some ad ∧ ∀ (j : Nat) (u : Value), (flatX M)[j]? = some u → W.cell? (ad.add j) = some u := by
      intro W hW
      have hMW : W.ownsRow 0 28 8 (.slice ai M.length ci) M.length (flatX M) := own_same hM2 fun b e => hW.block b (hM2.lt b e).2
      rcases own_shape hMW with ⟨e1, e2, e3⟩ | ⟨g, c, e1, _⟩
      · exact .inl ⟨(Value.slice.inj e1).1, (Value.slice.inj e1).2.2, e3⟩
      · obtain ⟨e2, _, _⟩ := Value.slice.inj e1
        subst e2
        exact .inr ⟨_, rfl, hMW.cells rfl⟩
    have hbA : Below w2.heap.size w2 ((w2.alloc (.cells #[] 28)).drew) := ((Below.refl _ _).alloc (Nat.le_refl _) _).drew
    have hbB : Below w2.heap.size w2 (((w2.alloc (.cells #[] 28)).alloc (.cells #[.int .i64 e.kind, .string e.name, .slice an nn cn, .int .i64 e.const.kind, .int .i64 e.const.int, .string e.const.text, .slice ad nd cd, .slice ak nk ck] 28)).drew) := (((Below.refl _ _).alloc (Nat.le_refl _) _).alloc (by simp) _).drew
    have hbC : Below w2.heap.size w2 (((w2.alloc (.cells #[.int .i64 e.kind, .string e.name, .slice an nn cn, .int .i64 e.const.kind, .int .i64 e.const.int, .string e.const.text, .slice ad nd cd, .slice ak nk ck] 28)).alloc (.cells #[] 28)).drew) := (((Below.refl _ _).alloc (Nat.le_refl _) _).alloc (by simp) _).drew
    have HBWA := Lib.hid hbA
    have HBWB := Lib.hid hbB
    have HBWC := Lib.hid hbC
    have HZWA : Hid (((w2.alloc (.cells #[] 28)).drew).heap.size = w2.heap.size + 1) := by show (w2.alloc _).heap.size = _; simp
    have HZWB : Hid ((((w2.alloc (.cells #[] 28)).alloc (.cells #[.int .i64 e.kind, .string e.name, .slice an nn cn, .int .i64 e.const.kind, .int .i64 e.const.int, .string e.const.text, .slice ad nd cd, .slice ak nk ck] 28)).drew).heap.size = w2.heap.size + 2) := by show ((w2.alloc _).alloc _).heap.size = _; simp
    have HZWC : Hid ((((w2.alloc (.cells #[.int .i64 e.kind, .string e.name, .slice an nn cn, .int .i64 e.const.kind, .int .i64 e.const.int, .string e.const.text, .slice ad nd cd, .slice ak nk ck] 28)).alloc (.cells #[] 28)).drew).heap.size = w2.heap.size + 2) := by show ((w2.alloc _).alloc _).heap.size = _; simp
    have HSA := Lib.hid (src _ hbA)
    have HSB := Lib.hid (src _ hbB)
    have HSC := Lib.hid (src _ hbC)
    have HEA : Hid (((w2.alloc (.cells #[] 28)).drew).ownsRow w2.heap.size 28 8 (.slice (some ⟨w2.heap.size, 0, none⟩) 0 0) 0 []) := own_drewN (zero_row w2 28 8) 1
    have HEB : Hid ((((w2.alloc (.cells #[] 28)).alloc (.cells #[.int .i64 e.kind, .string e.name, .slice an nn cn, .int .i64 e.const.kind, .int .i64 e.const.int, .string e.const.text, .slice ad nd cd, .slice ak nk ck] 28)).drew).ownsRow w2.heap.size 28 8 (.slice (some ⟨w2.heap.size, 0, none⟩) 0 0) 0 []) := own_drewN ((zero_row w2 28 8).alloc _) 1
    have HEC : Hid ((((w2.alloc (.cells #[.int .i64 e.kind, .string e.name, .slice an nn cn, .int .i64 e.const.kind, .int .i64 e.const.int, .string e.const.text, .slice ad nd cd, .slice ak nk ck] 28)).alloc (.cells #[] 28)).drew).ownsRow w2.heap.size 28 8 (.slice (some ⟨w2.heap.size + 1, 0, none⟩) 0 0) 0 []) := by
      have h := zero_row (w2.alloc (.cells #[.int .i64 e.kind, .string e.name, .slice an nn cn, .int .i64 e.const.kind, .int .i64 e.const.int, .string e.const.text, .slice ad nd cd, .slice ak nk ck] 28)) 28 8
      rw [World.heap_size_alloc] at h
      exact own_drewN (own_le h (Nat.le_succ _)) 1
    have HYBA : Hid (∀ {w4 : World}, (((w2.alloc (.cells #[] 28)).drew)).grownBy w4 (some w2.heap.size) → True) := fun _ => trivial
    have HYBB : Hid (∀ {w4 : World}, ((((w2.alloc (.cells #[] 28)).alloc (.cells #[.int .i64 e.kind, .string e.name, .slice an nn cn, .int .i64 e.const.kind, .int .i64 e.const.int, .string e.const.text, .slice ad nd cd, .slice ak nk ck] 28)).drew)).grownBy w4 (some w2.heap.size) → w4.heap[w2.heap.size + 1]? = some (.cells #[.int .i64 e.kind, .string e.name, .slice an nn cn, .int .i64 e.const.kind, .int .i64 e.const.int, .string e.const.text, .slice ad nd cd, .slice ak nk ck] 28 (0, 0))) := fun hg => (hg.block (w2.heap.size + 1) (by show w2.heap.size + 1 < ((w2.alloc _).alloc _).heap.size; simp) (fun e => by have := Option.some.inj e; omega)).trans (heap_new (w := w2.alloc (.cells #[] 28)) (by simp))
    have HYBC : Hid (∀ {w4 : World}, ((((w2.alloc (.cells #[.int .i64 e.kind, .string e.name, .slice an nn cn, .int .i64 e.const.kind, .int .i64 e.const.int, .string e.const.text, .slice ad nd cd, .slice ak nk ck] 28)).alloc (.cells #[] 28)).drew)).grownBy w4 (some (w2.heap.size + 1)) → w4.heap[w2.heap.size]? = some (.cells #[.int .i64 e.kind, .string e.name, .slice an nn cn, .int .i64 e.const.kind, .int .i64 e.const.int, .string e.const.text, .slice ad nd cd, .slice ak nk ck] 28 (0, 0))) := fun hg => (hg.block w2.heap.size (by show w2.heap.size < ((w2.alloc _).alloc _).heap.size; simp; omega) (fun e => by have := Option.some.inj e; omega)).trans ((Below.heap_alloc (w2.alloc (.cells #[.int .i64 e.kind, .string e.name, .slice an nn cn, .int .i64 e.const.kind, .int .i64 e.const.int, .string e.const.text, .slice ad nd cd, .slice ak nk ck] 28)) _ w2.heap.size (by simp)).trans (heap_alloc_new w2 _))
    have HMC : Hid (∀ u ∈ flatX M, u.oneCell' = true) := by
      intro u hu
      unfold flatX at hu
      obtain ⟨x, hx, hu⟩ := List.mem_flatMap.1 hu
      obtain ⟨h1, h2, h3⟩ := hs x hx
      exact XM.oneCell x h1 h2 h3 u hu
    obtain ⟨z0, z1, z2, z3, z4, z5, z6, z7, zl⟩ := (Row.of hP).bel hbA
    clear B1 B2 hB02 hsz2 hZ hP hj0 hy0 hy1 hy2 hM hs hml h0 hll hM2 src hbA hbB hbC
    go_enter Tryz.func47, Tryz.ntmps47
    go_upto_region 1 with fail
    rw [← HBA.out.eq, ← HBB.out.eq]
    go_upto_region 3 with fail
    go_region_law (first
    | (refine step_append_v (by rfl) (.tmp 12) (.tmp 13) 26 (by rfl) w2.heap.size 28 i1 _ 8 128 Tryz.underlying26 HJ.out HY0.out HY1.out HY2.out rfl (by decide) (.slice (some ⟨w2.heap.size, 0, none⟩) 0 0) 0 [] (by rfl) HEA.out ai M.length ci (flatX M) (by rfl) (flatX_length M) HSA.out HMC.out (by have := HML.out; simp only [maxLen]; omega) (by have := HML.out; omega) (by rw [HZWA.out]; omega) (w2.heap.size + 1) HZWA.out ?_; intro a4 c4 w4 hown hgr hlb; generalize hv4 : Value.slice a4 (0 + M.length) c4 = v4 at hown hlb ⊢; clear hv4; have HN4 := Lib.hid (let_one hown hgr HBWA.out HZWA.out (by decide) (Nat.le_refl _)); obtain ⟨y0, y1, y2, y3, y4, y5, y6, y7, yl⟩ := (HBX.out).bel HN4.out.2; have HY4 := Lib.hid (HYBA.out hgr); clear hown hgr hlb)
    | (refine step_append_v (by rfl) (.tmp 12) (.tmp 13) 26 (by rfl) w2.heap.size 28 i1 _ 8 128 Tryz.underlying26 HJ.out HY0.out HY1.out HY2.out rfl (by decide) (.slice (some ⟨w2.heap.size, 0, none⟩) 0 0) 0 [] (by rfl) HEB.out ai M.length ci (flatX M) (by rfl) (flatX_length M) HSB.out HMC.out (by have := HML.out; simp only [maxLen]; omega) (by have := HML.out; omega) (by rw [HZWB.out]; omega) (w2.heap.size + 2) HZWB.out ?_; intro a4 c4 w4 hown hgr hlb; generalize hv4 : Value.slice a4 (0 + M.length) c4 = v4 at hown hlb ⊢; clear hv4; have HN4 := Lib.hid (let_one hown hgr HBWB.out HZWB.out (by decide) (Nat.le_refl _)); obtain ⟨y0, y1, y2, y3, y4, y5, y6, y7, yl⟩ := (HBX.out).bel HN4.out.2; have HY4 := Lib.hid (HYBB.out hgr); clear hown hgr hlb)
    | (refine step_append_v (by rfl) (.tmp 12) (.tmp 13) 26 (by rfl) w2.heap.size 28 i1 _ 8 128 Tryz.underlying26 HJ.out HY0.out HY1.out HY2.out rfl (by decide) (.slice (some ⟨w2.heap.size + 1, 0, none⟩) 0 0) 0 [] (by rfl) HEC.out ai M.length ci (flatX M) (by rfl) (flatX_length M) HSC.out HMC.out (by have := HML.out; simp only [maxLen]; omega) (by have := HML.out; omega) (by rw [HZWC.out]; omega) (w2.heap.size + 2) HZWC.out ?_; intro a4 c4 w4 hown hgr hlb; generalize hv4 : Value.slice a4 (0 + M.length) c4 = v4 at hown hlb ⊢; clear hv4; have HN4 := Lib.hid (let_one hown hgr HBWC.out HZWC.out (by decide) (Nat.le_succ _)); obtain ⟨y0, y1, y2, y3, y4, y5, y6, y7, yl⟩ := (HBX.out).bel HN4.out.2; have HY4 := Lib.hid (HYBC.out hgr); clear hown hgr hlb)
    | (refine step_append_v (by rfl) (.tmp 14) (.tmp 16) 26 (by rfl) w2.heap.size 28 i1 _ 8 128 Tryz.underlying26 HJ.out HY0.out HY1.out HY2.out rfl (by decide) v4 (0 + M.length) (flatX M) (by rfl) (HN4.out.1.alloc _) (some ⟨w4.heap.size, 0, none⟩) 1 1 (XM.cells ⟨e, .slice an nn cn, .slice ad nd cd, .slice ak nk ck⟩) (by rfl) (by rfl) (.inr ⟨_, rfl, (new_cells8 w4 _ _ _ _ _ _ _ _ _)⟩) (XM.oneCell ⟨e, .slice an nn cn, .slice ad nd cd, .slice ak nk ck⟩ ⟨_, _, _, rfl⟩ ⟨_, _, _, rfl⟩ ⟨_, _, _, rfl⟩) (by have := HML.out; simp only [maxLen]; omega) (by have := HML.out; omega) (by have := HN4.out.2.size; simp only [World.heap_size_alloc]; omega) (w4.heap.size + 1) (by simp) ?_; intro a5 c5 w5 hown hgr hlb; obtain ⟨g5, c5', e5⟩ := own_ne5 hown; cases e5; have HN5 := Lib.hid (let_two HN4.out hown hgr ((Below.refl _ _).alloc (Nat.le_refl _) _)); have hz5 := ((HN5.out.2).block (w.heap.size + 1) (by rw [HS2.out]; omega)).trans HZB.out; have HZ5 := Lib.hid hz5; obtain ⟨⟨_, s0⟩, ⟨_, s1⟩, ⟨_, s2⟩, ⟨_, s3⟩, ⟨_, s4⟩, ⟨_, s5⟩, ⟨_, s6⟩, ⟨_, s7⟩, q0, q1, q2, q3, q4, q5, q6, q7, sbl⟩ := blk8 hz5; clear hown hgr hlb hz5)
    | (refine step_append_v (by rfl) (.tmp 14) (.tmp 16) 26 (by rfl) w2.heap.size 28 i1 _ 8 128 Tryz.underlying26 HJ.out HY0.out HY1.out HY2.out rfl (by decide) v4 (0 + M.length) (flatX M) (by rfl) HN4.out.1 (some ⟨(w2.heap.size + 1), 0, none⟩) 1 1 (XM.cells ⟨e, .slice an nn cn, .slice ad nd cd, .slice ak nk ck⟩) (by rfl) (by rfl) (.inr ⟨_, rfl, (World.news_of_block HY4.out)⟩) (XM.oneCell ⟨e, .slice an nn cn, .slice ad nd cd, .slice ak nk ck⟩ ⟨_, _, _, rfl⟩ ⟨_, _, _, rfl⟩ ⟨_, _, _, rfl⟩) (by have := HML.out; simp only [maxLen]; omega) (by have := HML.out; omega) HN4.out.2.size w4.heap.size rfl ?_; intro a5 c5 w5 hown hgr hlb; obtain ⟨g5, c5', e5⟩ := own_ne5 hown; cases e5; have HN5 := Lib.hid (let_two HN4.out hown hgr (Below.refl _ _)); have hz5 := ((HN5.out.2).block (w.heap.size + 1) (by rw [HS2.out]; omega)).trans HZB.out; have HZ5 := Lib.hid hz5; obtain ⟨⟨_, s0⟩, ⟨_, s1⟩, ⟨_, s2⟩, ⟨_, s3⟩, ⟨_, s4⟩, ⟨_, s5⟩, ⟨_, s6⟩, ⟨_, s7⟩, q0, q1, q2, q3, q4, q5, q6, q7, sbl⟩ := blk8 hz5; clear hown hgr hlb hz5)
    | (refine step_append_v (by rfl) (.tmp 14) (.tmp 16) 26 (by rfl) w2.heap.size 28 i1 _ 8 128 Tryz.underlying26 HJ.out HY0.out HY1.out HY2.out rfl (by decide) v4 (0 + M.length) (flatX M) (by rfl) HN4.out.1 (some ⟨w2.heap.size, 0, none⟩) 1 1 (XM.cells ⟨e, .slice an nn cn, .slice ad nd cd, .slice ak nk ck⟩) (by rfl) (by rfl) (.inr ⟨_, rfl, (World.news_of_block HY4.out)⟩) (XM.oneCell ⟨e, .slice an nn cn, .slice ad nd cd, .slice ak nk ck⟩ ⟨_, _, _, rfl⟩ ⟨_, _, _, rfl⟩ ⟨_, _, _, rfl⟩) (by have := HML.out; simp only [maxLen]; omega) (by have := HML.out; omega) HN4.out.2.size w4.heap.size rfl ?_; intro a5 c5 w5 hown hgr hlb; obtain ⟨g5, c5', e5⟩ := own_ne5 hown; cases e5; have HN5 := Lib.hid (let_two HN4.out hown hgr (Below.refl _ _)); have hz5 := ((HN5.out.2).block (w.heap.size + 1) (by rw [HS2.out]; omega)).trans HZB.out; have HZ5 := Lib.hid hz5; obtain ⟨⟨_, s0⟩, ⟨_, s1⟩, ⟨_, s2⟩, ⟨_, s3⟩, ⟨_, s4⟩, ⟨_, s5⟩, ⟨_, s6⟩, ⟨_, s7⟩, q0, q1, q2, q3, q4, q5, q6, q7, sbl⟩ := blk8 hz5; clear hown hgr hlb hz5)
    | fail)
    all_goals
      go_wp2_with fail
      refine bodyPost_ret (res1 rfl _ _ (w.heap.size + 1) 28 #[.int .i64 8, .string ⟨#[]⟩, .slice na ll nc, .int .i64 0, .int .i64 0, .string ⟨#[]⟩, .slice none 0 0, .slice (some ⟨g5, 0, none⟩) (M.length + 1) c5] (0, 0) rfl (eight_set _ _ _ _ _ _ _ _ _ _ _ (.int .i64 8) (.string ⟨#[]⟩) (.slice na ll nc) (.int .i64 0) (.int .i64 0) (.string ⟨#[]⟩) (.slice none 0 0) (.slice (some ⟨g5, 0, none⟩) (M.length + 1) c5) HZ5.out) exprD exprSize) rfl ?_
      exact let_end HLL.out H0.out HB02.out HS2.out HN5.out
end Ew
end Go.Proofs.YtkplkgdfphbldaaGreat
namespace Go.Proofs.YtkplkgdfphbldaaGreat
open Go.RowKit
set_option linter.unusedVariables false
set_option linter.unusedSimpArgs false
namespace Ew
theorem name_size {s : ByteArray} (h : Nm.nameB s = true) : s.size ≤ maxLen := by
  unfold Nm.nameB Nm.nameL at h
  simp only [Bool.and_eq_true, decide_eq_true_eq] at h
  have := h.1.1.2
  rw [Nm.bytesI_length] at this
  simp only [maxLen]
  omega
theorem prim_size {s : ByteArray} {n : Nat} (h : Ex.arity s = n) : s.size ≤ maxLen := by
  have k0 : ∀ x ∈ Ex.prims0, x.size ≤ 64 := by decide
  have k1 : ∀ x ∈ Ex.prims1, x.size ≤ 64 := by decide
  have k2 : ∀ x ∈ Ex.prims2, x.size ≤ 64 := by decide
  have k3 : ∀ x ∈ Ex.prims3, x.size ≤ 64 := by decide
  have key : s.size ≤ 64 := by
    unfold Ex.arity at h
    split at h
    · rename_i e; exact k0 s ((Ex.inN_iff _ _).1 e)
    · split at h
      · rename_i e; exact k1 s ((Ex.inN_iff _ _).1 e)
      · split at h
        · rename_i e; exact k2 s ((Ex.inN_iff _ _).1 e)
        · split at h
          · rename_i e; exact k3 s ((Ex.inN_iff _ _).1 e)
          · omega
  simp only [maxLen]
  omega
theorem const_fit {d : Dt} (h : Ex.constB d = true) : d.list = [] ∧ Dt.Fit d := by
  unfold Ex.constB at h
  rw [Bool.and_eq_true] at h
  obtain ⟨h1, h2⟩ := h
  have hf := (chkE_form (of_decide_eq_true h1)).1
  obtain ⟨k, i, t, l⟩ := d
  simp only [Dt.kind_mk, Dt.int_mk, Dt.text_mk, Dt.list_mk] at h2 hf ⊢
  have key : l = [] ∧ t.size ≤ maxLen := by
    have h2 : (((k = 0 ∨ k = 1) ∨ k = 2) ∨ k = 4) ∨ (k = 5 ∧ l.isEmpty = true) := by
      rw [Bool.or_eq_true, Bool.or_eq_true, Bool.or_eq_true, Bool.or_eq_true, Bool.and_eq_true] at h2
      exact h2.imp (Or.imp (Or.imp (Or.imp of_decide_eq_true of_decide_eq_true) of_decide_eq_true) of_decide_eq_true) (And.imp of_decide_eq_true id)
    unfold Dt.formB at hf
    rcases h2 with (((rfl | rfl) | rfl) | rfl) | ⟨rfl, h2⟩
    · simp at hf
      rw [hf.1.1, hf.1.2]
      exact ⟨rfl, Nat.zero_le _⟩
    · simp at hf
      rw [hf.1.1, hf.1.2]
      exact ⟨rfl, Nat.zero_le _⟩
    · simp at hf
      rw [hf.1.1, hf.1.2]
      exact ⟨rfl, Nat.zero_le _⟩
    · simp at hf
      exact ⟨hf.1.2, name_size hf.2⟩
    · simp at hf
      rw [hf.2]
      exact ⟨List.isEmpty_iff.1 h2, Nat.zero_le _⟩
  obtain ⟨rfl, ht⟩ := key
  exact ⟨rfl, .mk k i t [] ht (by simp) (by simp)⟩
structure Parts (e : Ex) : Prop where
  name : e.name.size ≤ maxLen
  names : ∀ s ∈ e.names, s.size ≤ maxLen
  thin : e.names.length ≤ 6 * e.kids.length
  list : e.const.list = []
  fit : Dt.Fit e.const
theorem zero_fit : Dt.Fit Dt.zero := .mk 0 0 ⟨#[]⟩ [] (Nat.zero_le _) (by simp) (by simp)
theorem names_size {l : List ByteArray} (h : Ex.namesB l = true) : ∀ s ∈ l, s.size ≤ maxLen := fun s hs => name_size (((Ex.namesB_iff l).1 h).1 s hs)
theorem form_parts {e : Ex} (h : Ex.form e = true) : Parts e := by
  unfold Ex.form at h
  have nil_size : ∀ s : ByteArray, s = ⟨#[]⟩ → s.size ≤ maxLen := fun s e => by rw [e]; exact Nat.zero_le _
  by_cases h0 : e.kind = 0
  · rw [if_pos h0] at h
    simp only [Bool.and_eq_true, decide_eq_true_eq, List.isEmpty_iff] at h
    obtain ⟨h1, h2⟩ := const_fit h.2
    exact ⟨nil_size _ h.1.1.1, by rw [h.1.1.2]; simp, by rw [h.1.1.2]; simp, h1, h2⟩
  · rw [if_neg h0] at h
    rw [Bool.and_eq_true, Bool.and_eq_true] at h
    obtain ⟨⟨hc, hn⟩, h⟩ := h
    have hce := Dt.same_true _ _ hc
    have hns := names_size hn
    have mk : e.name.size ≤ maxLen → e.names.length ≤ 6 * e.kids.length → Parts e := fun a b => ⟨a, hns, b, by rw [hce]; rfl, by rw [hce]; exact zero_fit⟩
    by_cases h1 : e.kind = 1
    · simp only [h1] at h
      simp [List.isEmpty_iff] at h
      exact mk (name_size h.1.1) (by rw [h.1.2]; simp)
    by_cases h2 : e.kind = 2
    · simp only [h2] at h
      simp [List.isEmpty_iff] at h
      exact mk (name_size h.1.1) (by rw [h.1.2]; simp)
    by_cases h3 : e.kind = 3
    · simp only [h3] at h
      simp [List.isEmpty_iff] at h
      exact mk (nil_size _ h.1.1) (by rw [h.1.2]; simp)
    by_cases h4 : e.kind = 4
    · simp only [h4] at h
      simp [List.isEmpty_iff] at h
      exact mk (nil_size _ h.1.1) (by rw [h.1.2]; simp)
    by_cases h5 : e.kind = 5
    · simp only [h5] at h
      simp [List.isEmpty_iff] at h
      exact mk (nil_size _ h.1.1) (by omega)
    by_cases h6 : e.kind = 6
    · simp only [h6] at h
      simp [List.isEmpty_iff] at h
      exact mk (nil_size _ h.1.1.1) (by rw [h.1.1.2]; simp)
    by_cases h7 : e.kind = 7
    · simp only [h7] at h
      simp [List.isEmpty_iff] at h
      exact mk (prim_size h.2) (by rw [h.1]; simp)
    by_cases h8 : e.kind = 8
    · simp only [h8] at h
      simp [List.isEmpty_iff] at h
      exact mk (nil_size _ h.1) (by omega)
    by_cases h9 : e.kind = 9
    · simp only [h9] at h
      simp [List.isEmpty_iff] at h
      exact mk (nil_size _ h.1) (by omega)
    by_cases h10 : e.kind = 10
    · simp only [h10] at h
      simp [List.isEmpty_iff] at h
      exact mk (nil_size _ h.1.1.1) (by omega)
    simp only [h1, h2, h3, h4, h5, h6, h7, h8, h9, h10, if_false] at h
    cases h
theorem all_kid {F : Ex → Bool} {e x : Ex} (h : Ex.all F e = true) (hx : x ∈ e.kids) : Ex.all F x = true := ((Ex.all_iff F e).1 h).2 x hx
theorem fit_of_form (e : Ex) : Ex.all Ex.form e = true → e.size ≤ 1000000 → Ex.Fit e := by
  induction e using Ex.byKids with
  | h e ih =>
    intro h hs
    have P := form_parts ((Ex.all_iff Ex.form e).1 h).1
    have h1 := Ex.size_eq e
    have h2 := Ex.sizes_len e.kids
    have hk : ∀ x ∈ e.kids, Ex.Fit x := fun x hx => ih x hx (all_kid h hx) (by have := Ex.size_mem _ _ hx; omega)
    have ht := P.thin
    have hq := Ex.Fit.mk e.kind e.name e.names e.const e.kids P.name P.names (by simp only [maxLen]; omega) P.fit (by simp only [maxLen]; omega) hk
    rw [Ex.eta] at hq
    exact hq
theorem few_of_form (e : Ex) (h : Ex.all Ex.form e = true) (hs : e.size ≤ 100000) : Few e ∧ Ex.all thin e = true := by
  have key : ∀ e : Ex, Ex.all Ex.form e = true → e.size ≤ 100000 → Ex.all fewN e = true ∧ Ex.all thin e = true := by
    intro e
    induction e using Ex.byKids with
    | h e ih =>
      intro h hs
      have P := form_parts ((Ex.all_iff Ex.form e).1 h).1
      have h1 := Ex.size_eq e
      have h2 := Ex.sizes_len e.kids
      have hk : ∀ x ∈ e.kids, _ := fun x hx => ih x hx (all_kid h hx) (by have := Ex.size_mem _ _ hx; omega)
      have ht := P.thin
      refine ⟨(Ex.all_iff _ _).2 ⟨?_, fun x hx => (hk x hx).1⟩, (Ex.all_iff _ _).2 ⟨decide_eq_true ht, fun x hx => (hk x hx).2⟩⟩
      unfold fewN
      rw [P.list, decide_eq_true (by omega)]
      rfl
  exact ⟨⟨hs, (key e h hs).1⟩, (key e h hs).2⟩
theorem anyNo_not (l : List Ex) : (!anyNo l) = l.all fun x => decide (x.kind = 5) := by
  unfold anyNo
  induction l with
  | nil => rfl
  | cons x l ih => simp only [List.any_cons, List.all_cons, Bool.not_or, ih, Bool.not_not]
theorem wrap_len {K n : Nat} (hK : K ≤ 9223372036854775807) (hn : n ≤ 9223372036854775807) : (¬ ((K : Int) < IntKind.i64.wrap ((n : Int) + 1)) ∧ ¬ (IntKind.i64.wrap ((n : Int) + 1) < (K : Int))) ↔ K = n + 1 := by
  rw [IntKind.wrap_i64]
  constructor
  · rintro ⟨h1, h2⟩
    omega
  · rintro rfl
    omega
theorem formC_split (e : Ex) : formC e = true ↔ ((shOk e.kind e.name e.names.length = true ∧ ¬ ((e.kids.length : Int) < shFr e.kind e.name e.names.length) ∧ ¬ (shTo e.kind e.name e.names.length < (e.kids.length : Int)) ∧ (0 < e.names.length → shNs e.kind = true) ∧ Ex.namesB e.names = true) ∧ (shN e.kind = true → e.kind ≠ 7 → Nm.nameB e.name = true) ∧ (shN e.kind = false → e.name = ⟨#[]⟩) ∧
    (if e.kind = 0 then Ex.constB e.const = true else ((e.kind = 10 → (e.kids.take e.names.length).all (fun x => decide (x.kind = 5)) = true) ∧ Dt.same e.const Dt.zero = true))) := by
  have h2 : bad2 (shOk e.kind e.name e.names.length) (shNs e.kind) (shFr e.kind e.name e.names.length) (shTo e.kind e.name e.names.length) e.kids.length e.names.length (Ex.namesB e.names) = false ↔ (shOk e.kind e.name e.names.length = true ∧ ¬ ((e.kids.length : Int) < shFr e.kind e.name e.names.length) ∧ ¬ (shTo e.kind e.name e.names.length < (e.kids.length : Int)) ∧ (0 < e.names.length → shNs e.kind = true) ∧ Ex.namesB e.names = true) := by
    unfold bad2
    simp only [Bool.or_eq_false_iff, Bool.not_eq_false', decide_eq_false_iff_not, Bool.and_eq_false_iff]
    constructor
    · rintro ⟨⟨⟨⟨a, b⟩, c⟩, d⟩, f⟩
      exact ⟨a, b, c, fun hp => d.resolve_left (by omega), f⟩
    · rintro ⟨a, b, c, d, f⟩
      refine ⟨⟨⟨⟨a, b⟩, c⟩, ?_⟩, f⟩
      by_cases hp : 0 < e.names.length
      · exact .inr (d hp)
      · exact .inl (by omega)
  have h4 : bad4 (shN e.kind) e.kind e.name = false ↔ (shN e.kind = true → e.kind ≠ 7 → Nm.nameB e.name = true) ∧ (shN e.kind = false → e.name = ⟨#[]⟩) := by
    unfold bad4
    cases shN e.kind <;> simp
  unfold formC
  cases hb2 : bad2 (shOk e.kind e.name e.names.length) (shNs e.kind) (shFr e.kind e.name e.names.length) (shTo e.kind e.name e.names.length) e.kids.length e.names.length (Ex.namesB e.names) with
  | true =>
    rw [if_pos rfl, ← h2, hb2]
    simp
  | false =>
    rw [if_neg (by simp), ← h2, hb2]
    cases hb4 : bad4 (shN e.kind) e.kind e.name with
    | true =>
      rw [if_pos rfl]
      constructor
      · intro h; cases h
      · rintro ⟨_, a, b, _⟩
        rw [h4.2 ⟨a, b⟩] at hb4
        cases hb4
    | false =>
      obtain ⟨a, b⟩ := h4.1 hb4
      rw [if_neg (by simp)]
      by_cases h0 : e.kind = 0
      · rw [if_pos h0, if_pos h0]
        exact ⟨fun h => ⟨rfl, a, b, h⟩, fun h => h.2.2.2⟩
      · rw [if_neg h0, if_neg h0]
        unfold last9
        rw [anyNo_not, Bool.and_eq_true, Bool.or_eq_true]
        constructor
        · rintro ⟨h1, h2⟩
          exact ⟨rfl, a, b, fun hk => h1.resolve_left (by simp [hk]), h2⟩
        · rintro ⟨_, _, _, h1, h2⟩
          refine ⟨?_, h2⟩
          by_cases hk : e.kind = 10
          · exact .inr (h1 hk)
          · exact .inl (by simp [hk])
theorem formC_iff (e : Ex) (hkl : e.kids.length ≤ 9223372036854775807) (hnl : e.names.length ≤ 9223372036854775807) : formC e = true ↔ Ex.form e = true ∧ (e.kind = 4 → e.kids.length ≤ 4096) := by
  rw [formC_split]
  have hnil : Ex.namesB [] = true := Ex.namesB_nil
  have hw := wrap_len hkl hnl
  unfold Ex.form shOk shFr shTo shN shNs
  have e1 : e.kids.isEmpty = decide (e.kids.length = 0) := by cases e.kids <;> simp
  have e2 : e.names.isEmpty = decide (e.names.length = 0) := by cases e.names <;> simp
  have hnn : e.names.length = 0 → Ex.namesB e.names = true := fun h => by rw [List.length_eq_zero_iff.1 h]; exact hnil
  rw [e1, e2]
  clear e1 e2 hnil
  generalize ((e.kids.take e.names.length).all fun x => decide (x.kind = 5)) = TA at *
  generalize Ex.namesB e.names = NB at *
  generalize Nm.nameB e.name = NM at *
  generalize Dt.same e.const Dt.zero = Z at *
  generalize Ex.constB e.const = CB at *
  generalize IntKind.i64.wrap ((e.names.length : Int) + 1) = W at *
  generalize Ex.arity e.name = AR at *
  generalize e.kids.length = K at *
  generalize e.names.length = n at *
  generalize e.kind = k at *
  by_cases hP : e.name = ⟨#[]⟩
  all_goals
    simp only [hP, decide_true, decide_false]
    rcases (by omega : k = 0 ∨ k = 1 ∨ k = 2 ∨ k = 3 ∨ k = 4 ∨ k = 5 ∨ k = 6 ∨ k = 7 ∨ k = 8 ∨ k = 9 ∨ k = 10 ∨ (k < 0 ∨ 10 < k)) with rfl | rfl | rfl | rfl | rfl | rfl | rfl | rfl | rfl | rfl | rfl | hk
  case pos.inr.inr.inr.inr.inr.inr.inr.inr.inr.inr.inr | neg.inr.inr.inr.inr.inr.inr.inr.inr.inr.inr.inr =>
    have q0 : k ≠ 0 := by omega
    have q1 : k ≠ 1 := by omega
    have q2 : k ≠ 2 := by omega
    have q3 : k ≠ 3 := by omega
    have q4 : k ≠ 4 := by omega
    have q5 : k ≠ 5 := by omega
    have q6 : k ≠ 6 := by omega
    have q7 : k ≠ 7 := by omega
    have q8 : k ≠ 8 := by omega
    have q9 : k ≠ 9 := by omega
    have q10 : k ≠ 10 := by omega
    have h1 : (decide (0 ≤ k) && decide (k ≤ 10)) = false := by
      rcases hk with h | h
      · rw [decide_eq_false (by omega)]; rfl
      · rw [decide_eq_false (p := k ≤ 10) (by omega)]; simp
    simp [q0, q1, q2, q3, q4, q5, q6, q7, q8, q9, q10, h1]
  all_goals
    clear hP
    cases NB <;> cases NM <;> cases Z <;> cases CB <;> cases TA <;> simp at * <;> first | done | omega | trace_state
end Ew
end Go.Proofs.YtkplkgdfphbldaaGreat
namespace Go.Proofs.YtkplkgdfphbldaaGreat
open Go.RowKit
set_option linter.unusedVariables false
set_option linter.unusedSimpArgs false
set_option maxRecDepth 100000
namespace Ew
open Rn
theorem own_lit1 {w : World} {g : Nat} {x : XM} (h : w.heap[g]? = some (.cells #[.int .i64 x.e.kind, .string x.e.name, x.nv, .int .i64 x.e.const.kind, .int .i64 x.e.const.int, .string x.e.const.text, x.dl, x.kv] 28 (0, 0))) : w.ownsRow 0 28 8 (.slice (some ⟨g, 0, none⟩) 1 1) 1 (flatX [x]) :=
  ⟨by rw [flatX_length]; rfl, .inr ⟨g, 1, _, rfl, Nat.zero_le _, h, Nat.le_refl _, by decide, rfl, by rw [flatX_one]; rfl⟩⟩
theorem set_free {w : World} {ρ : Nat → Nat} {g : Nat} {x : XM} (n : ByteArray) (h : w.heap[g]? = some (.cells #[.int .i64 x.e.kind, .string x.e.name, x.nv, .int .i64 x.e.const.kind, .int .i64 x.e.const.int, .string x.e.const.text, x.dl, x.kv] 28 (0, 0))) (hr : ρ g = 0) (hx : Free0 ρ w (fun w => ExAt w x.val x.e)) :
    Free0 ρ w (fun w => ExAt w (XM.val ⟨Ex.setE n x.e, .slice none 0 0, .slice none 0 0, .slice (some ⟨g, 0, none⟩) 1 1⟩) (Ex.setE n x.e)) := by
  have hk : On (fun b => ρ b = 0) w (fun w => KidsAt w (.slice (some ⟨g, 0, none⟩) 1 1) [x.e]) := On.kids (M := [x]) (own_lit1 h) (fun b e => by cases e; exact hr) (fun y hy => by simp at hy; subst hy; exact hx)
  exact On.mk On.nil On.zero room_nil hk
def unsetX : XM := ⟨Ex.unsetE, .slice none 0 0, .slice none 0 0, .slice none 0 0⟩
theorem unset_free {w : World} {ρ : Nat → Nat} : Free0 ρ w (fun w => ExAt w unsetX.val unsetX.e) := On.mk On.nil On.zero room_nil On.nokids
theorem M_at {M : List XM} {l : List Ex} (h : M.map (·.e) = l) {j : Nat} (hj : j < l.length) : ∃ x, M[j]? = some x ∧ l[j]? = some x.e := by
  have hl : M.length = l.length := by rw [← h, List.length_map]
  subst h
  rw [List.length_map] at hj
  refine ⟨M[j], List.getElem?_eq_getElem hj, ?_⟩
  rw [List.getElem?_map, List.getElem?_eq_getElem hj]
  rfl
theorem tie_of {B : Nat} {e : Ex} {w5 : World} {ρ0 : Nat → Nat} {pb : Nat} {wr : World} {ρ : Nat → Nat} {vf1 vf2 vo1 vo2 vl vs : Value} {F O : List ByteArray} {FX OX LX SX : List XM} (h : Fx B e w5 ρ0 pb e.names.length wr ρ vf1 vf2 vo1 vo2 vl vs F O FX OX LX SX) {y y2 : Ex} {b : Ex}
    (hy : y = Ex.seqE ((LX ++ SX).map (·.e)) b) (hy2 : y2 = Ex.fixN F (FX.map (·.e)) y) : Ex.tieE (Ex.assigned e) (e.names.zip (e.kids.map Ex.fixE)) b = Ex.letE O (OX.map (·.e)) y2 := by
  have hp : prs e e.names.length = e.names.zip (e.kids.map Ex.fixE) := by
    unfold prs
    exact List.take_of_length_le (by rw [List.length_zip]; omega)
  have h1 := h.eF
  have h2 := h.eFX
  have h3 := h.eO
  have h4 := h.eOX
  have h5 := h.eL
  have h6 := h.eS
  rw [hp] at h1 h2 h3 h4 h5 h6
  subst hy hy2
  rw [List.map_append, h5, h6, h1, h2, h3, h4]
  rfl
theorem made_of {B : Nat} {w wx wy : World} {ρ2 : Nat → Nat} {z : Nat} {S : Nat → Prop} {P : World → Prop} (hB : B ≤ w.heap.size) (h : On S wx P) (hS : ∀ b, S b → ρ2 b = 0 ∨ ρ2 b = 4) (hb : Below wx.heap.size wx wy) (h8 : ∀ b, B ≤ b → b < w.heap.size → ρ2 b = 8) (hz : ρ2 z = 9) (b0 b1 b2 b3 b4 b5 b6 b7 : Value) :
    On (fun b => b < B ∨ w.heap.size ≤ b) (put8 wy z b0 b1 b2 b3 b4 b5 b6 b7) P := by
  refine (on_put8 (h.bel hb) (fun e => ?_) _ _ _ _ _ _ _ _).mono fun b hs _ => ?_
  · have := hS z e
    omega
  · have h1 := hS b hs
    by_cases h2 : b < B
    · exact .inl h2
    · by_cases h3 : b < w.heap.size
      · have := h8 b (by omega) h3
        omega
      · exact .inr (by omega)
theorem let_on {B : Nat} {w5 : World} {ρ0 : Nat → Nat} {pb z g c : Nat} {wy w8 : World} {ρ : Nat → Nat} {vo1 vo2 : Value} {O : List ByteArray} {OX : List XM} {y : XM} (h : Bq B w5 ρ0 pb wy ρ vo1 vo2 O OX z y) (hb : Below wy.heap.size wy w8) (hown : w8.ownsRow wy.heap.size 28 8 (.slice (some ⟨g, 0, none⟩) (OX.length + 1) c) (OX.length + 1) (flatX (OX ++ [y]))) :
    On (fun b => ρ b = 0 ∨ ρ b = 4) w8 (fun w => ExAt w (exV 8 ⟨#[]⟩ vo1 Dt.zero (.slice none 0 0) (.slice (some ⟨g, 0, none⟩) (OX.length + 1) c)) (.mk 8 ⟨#[]⟩ O Dt.zero (OX.map (·.e) ++ [y.e]))) := by
  have hn := On.names (S := fun b => ρ b = 0 ∨ ρ b = 4) (own_same (w' := w8) h.o1.1 fun b e => hb.block b (h.o1.1.lt b e).2) fun b e => .inr (h.o1.2 b e)
  have hk := On.kids (S := fun b => ρ b = 0 ∨ ρ b = 4) (M := OX ++ [y]) (by rw [List.length_append]; exact hown) (fun b e => .inl (h.ri.hi b (hown.lt b e).1)) fun x hx => by
    simp only [List.mem_append, List.mem_singleton] at hx
    rcases hx with hx | rfl
    · exact ((h.o2.els x hx).bel hb).mono fun b e _ => .inl e
    · exact (h.ex.bel hb).mono fun b e _ => .inl e
  rw [List.map_append] at hk
  exact On.mk hn.1 On.zero hn.2 hk
theorem h8y {w wy w8 : World} (h : Below w.heap.size w wy) (hb : Below wy.heap.size wy w8) : Below w.heap.size w w8 := h.trans (hb.mono h.size)
set_option maxHeartbeats 64000000 in
theorem fix_any (w0 : World) (e : Ex) : ∀ {w : World} {na : Option Addr} {nc : Nat} {da : Option Addr} {dn dc : Nat} {ka : Option Addr} {kc : Nat}, Few e → Ex.all Ex.form e = true → Op w0 e na nc da dn dc ka kc → Below w0.heap.size w0 w →
    Calls Tryz.prog 25 #[.agg #[.int .i64 e.kind, .string e.name, .slice na e.names.length nc, .int .i64 e.const.kind, .int .i64 e.const.int, .string e.const.text, .slice da dn dc, .slice ka e.kids.length kc]] w (MadePost w0.heap.size (Ex.fixE e) w) := by
  induction e using Ex.byKids with
  | h e ih =>
  intro w na nc da dn dc ka kc hf hfo ho hb
  obtain ⟨w1, B1⟩ := boxed w #[.int .i64 e.kind, .string e.name, .slice na e.names.length nc, .int .i64 e.const.kind, .int .i64 e.const.int, .string e.const.text, .slice da dn dc, .slice ka e.kids.length kc] 28
  obtain ⟨w2, B2⟩ := boxed w1 #[.int .i64 0, .string ⟨#[]⟩, .slice none 0 0, .int .i64 0, .int .i64 0, .string ⟨#[]⟩, .slice none 0 0, .slice none 0 0] 28
  have hB02 : Below w.heap.size w w2 := B1.below.trans (B2.below.mono B1.below.size)
  have hsz2 : w2.heap.size = w.heap.size + 2 := by rw [B2.size, B1.size]
  have hZ : w2.heap[w.heap.size + 1]? = some (.cells #[.int .i64 0, .string ⟨#[]⟩, .slice none 0 0, .int .i64 0, .int .i64 0, .string ⟨#[]⟩, .slice none 0 0, .slice none 0 0] 28 (0, 0)) := by
    have := B2.blk
    rw [B1.size] at this
    exact this
  have hP := (B2.below.block _ (by rw [B1.size]; omega)).trans B1.blk
  have HBA := Lib.hid B1
  have HBB := Lib.hid B2
  have HZB := Lib.hid hZ
  have HPB := Lib.hid hP
  have HB02 := Lib.hid hB02
  have HS2 := Lib.hid hsz2
  have HIH := Lib.hid ih
  have HF := Lib.hid hf
  have HFO := Lib.hid hfo
  have HO := Lib.hid ho
  have HBW := Lib.hid hb
  have hb2 := hb.trans (hB02.mono hb.size)
  have HB0 := Lib.hid hb2
  have HMP := Lib.hid (map_any 25 (fun _ _ => rfl) Ex.fixE w0 w0.heap.size (Nat.le_refl _) e.kind e.name e.const e.kids (w := w2) (na := na) (nn := e.names.length) (nc := nc) (da := da) (dn := dn) (dc := dc) ho.kids hb2 hf.len (fun W x na nc da dn dc ka kc hx hop hbw => ih x hx (hf.kid hx) (all_kid hfo hx) hop hbw))
  unfold MapPost at HMP
  obtain ⟨x0, x1, x2, x3, x4, x5, x6, x7, hbl⟩ := Row.of hP
  clear B1 B2 hB02 hsz2 hZ hP ih hf hfo ho hb hb2
  go_enter Tryz.func25, Tryz.ntmps25
  go_upto_region 1 with fail
  rw [← HBA.out.eq, ← HBB.out.eq]
  go_upto_region 2 with (first
    | (go_at_call 42; (with_reducible refine HMP.out.mono ?_); rintro e2 w3 ⟨rv, M, hes, rfl, hown, hblk, hels, hb3⟩; unfold exV; have HES := Lib.hid hes; have HOW := Lib.hid hown; have HBK := Lib.hid hblk; have HEL := Lib.hid hels; have HB3 := Lib.hid hb3; obtain ⟨ar, cr, hrv⟩ : ∃ ar cr, rv = .slice ar M.length cr := RowR.slice (ρ := fun _ => 0) (r := 0) ⟨hown, fun _ _ => rfl⟩; subst hrv; clear hes hown hblk hels hb3)
    | fail)
  obtain ⟨w4, B4⟩ := boxed w3 #[.int .i64 e.kind, .string e.name, .slice na e.names.length nc, .int .i64 e.const.kind, .int .i64 e.const.int, .string e.const.text, .slice da dn dc, .slice ar M.length cr] 28
  rw [← B4.eq]
  have HB4 := Lib.hid B4
  have HB24 := Lib.hid (HB3.out.trans (B4.below.mono HB3.out.size))
  have hP4 := (HB24.out.block w.heap.size (by rw [HS2.out]; omega)).trans HPB.out
  have hZ4 := (HB24.out.block (w.heap.size + 1) (by rw [HS2.out]; omega)).trans HZB.out
  have HP4 := Lib.hid hP4
  have HZ4 := Lib.hid hZ4
  have HO4 := Lib.hid B4.blk
  have hs34 : w4.heap.size = w3.heap.size + 1 := B4.size
  have hs23 := HB3.out.size
  have HS34 := Lib.hid hs34
  have HS23 := Lib.hid hs23
  obtain ⟨x0, x1, x2, x3, x4, x5, x6, x7, xl⟩ := Row.of hP4
  obtain ⟨o0, o1, o2, o3, o4, o5, o6, o7, ol⟩ := Row.of B4.blk
  clear B4 hP4 hZ4 hs34 hs23
  by_cases hk : e.kind = 9 ∨ e.kind = 10
  · have hkl := (Ex.form_ties ((Ex.all_iff Ex.form e).1 HFO.out).1 hk).1
    have hml : M.length = e.names.length + 1 := by
      have := congrArg List.length HES.out
      rw [List.length_map, List.length_map] at this
      omega
    obtain ⟨gr, har⟩ : ∃ gr, ar = some ⟨gr, 0, none⟩ := by
      rcases own_shape HOW.out with ⟨_, e2, _⟩ | ⟨g, c, e1, _⟩
      · omega
      · exact ⟨g, (Value.slice.inj e1).1⟩
    subst har
    have HML := Lib.hid hml
    have HKL := Lib.hid hkl
    go_cut [21] (fun s wx => s = .bool false ∧ wx = w4)
    case first =>
      by_cases h9 : e.kind = 9
      · have q9 : (e.kind != 9) = false := by rw [h9]; rfl
        clear hk h9 hml hkl
        go_wp2_with fail
        go_meet
        exact ⟨rfl, rfl⟩
      · have q9 : (e.kind != 9) = true := by rw [bne_iff_ne]; exact h9
        have q10 : (e.kind != 10) = false := by rw [hk.resolve_left h9]; rfl
        clear hk h9 hml hkl
        go_wp2_with fail
        go_meet
        exact ⟨rfl, rfl⟩
    case rest =>
      obtain ⟨rfl, hwc⟩ := hcut
      subst hwc
      obtain ⟨wo, hwo⟩ : ∃ z, z = wc := ⟨_, rfl⟩
      subst hwo
      have HE : Hid (Ex.fixE e = Ex.tieE (Ex.assigned e) (e.names.zip (e.kids.map Ex.fixE)) ((e.kids.map Ex.fixE)[e.names.length]?.getD Ex.zero)) := by unfold Hid; rw [Ex.fixE_eq, if_pos hk]
      obtain ⟨w5, B5⟩ := boxed wo #[.int .i64 0, .string ⟨#[]⟩, .slice none 0 0, .int .i64 0, .int .i64 0, .string ⟨#[]⟩, .slice none 0 0, .slice none 0 0, .int .i64 0, .string ⟨#[]⟩, .slice none 0 0, .int .i64 0, .int .i64 0, .string ⟨#[]⟩, .slice none 0 0, .slice none 0 0] 61
      have hn3 : e.names.length ≤ 100000 := by have := HF.out.len; omega
      have HN3 := Lib.hid hn3
      clear hk hml hkl
      go_upto_region 6 with fail
      rw [← B5.eq]
      obtain ⟨ρ0, hρ0⟩ : ∃ ρ0 : Nat → Nat, ρ0 = fun b => if w0.heap.size ≤ b ∧ b < w.heap.size then 8 else if b = w.heap.size ∨ b = w.heap.size + 1 then 9 else if b = wo.heap.size then 1 else 0 := ⟨_, rfl⟩
      have hle0 := HBW.out.size
      have hs2 := HS2.out
      have hs34 := HS34.out
      have hs23 := HS23.out
      have hs5 : w5.heap.size = wo.heap.size + 1 := B5.size
      have hr0 : ∀ b, b < w0.heap.size → ρ0 b = 0 := fun b hb => by subst hρ0; show (if _ then _ else _) = _; rw [if_neg (by omega), if_neg (by omega), if_neg (by omega)]
      have hr1 : ∀ b, w2.heap.size ≤ b → b ≠ wo.heap.size → ρ0 b = 0 := fun b hb hn => by subst hρ0; show (if _ then _ else _) = _; rw [if_neg (by omega), if_neg (by omega), if_neg hn]
      have hr2 : ρ0 wo.heap.size = 1 := by subst hρ0; show (if _ then _ else _) = _; rw [if_neg (by omega), if_neg (by omega), if_pos rfl]
      have hr3 : ρ0 w.heap.size = 9 := by subst hρ0; show (if _ then _ else _) = _; rw [if_neg (by omega), if_pos (.inl rfl)]
      have hr4 : ρ0 (w.heap.size + 1) = 9 := by subst hρ0; show (if _ then _ else _) = _; rw [if_neg (by omega), if_pos (.inr rfl)]
      have hr5 : ∀ b, w0.heap.size ≤ b → b < w.heap.size → ρ0 b = 8 := fun b h1 h2 => by subst hρ0; exact if_pos ⟨h1, h2⟩
      have hr6 : ∀ b, ρ0 b ≠ 2 ∧ ρ0 b ≠ 3 ∧ ρ0 b ≠ 6 := fun b => by
        subst hρ0
        show (if _ then _ else _) ≠ _ ∧ (if _ then _ else _) ≠ _ ∧ (if _ then _ else _) ≠ _
        split
        · decide
        · split
          · decide
          · split <;> decide
      have hri : RI w0.heap.size w5 ρ0 := ⟨hr0, fun b hb => hr1 b (by omega) (by omega), by omega⟩
      have hb35 : Below w3.heap.size w3 w5 := HB4.out.below.trans (B5.below.mono HB4.out.below.size)
      have hels : ∀ x ∈ M, Free0 ρ0 w5 (fun w => ExAt w x.val x.e) := fun x hx => (HEL.out x hx).same hb35.size fun b hb hl => ⟨hb.elim (hr0 b) fun h => hr1 b h (by omega), hb35.block b hl⟩
      have hrow5 : w5.ownsRow 0 28 8 (.slice (some ⟨gr, 0, none⟩) M.length cr) M.length (flatX M) := own_same HOW.out fun b e => hb35.block b (HOW.out.lt b e).2
      have hgr0 : ρ0 gr = 0 := hr1 gr (HBK.out gr rfl) (by have := (HOW.out.lt gr rfl).2; omega)
      have hfx : Fx w0.heap.size e w5 ρ0 wo.heap.size 0 w5 ρ0 (.slice none 0 0) (.slice none 0 0) (.slice none 0 0) (.slice none 0 0) (.slice none 0 0) (.slice none 0 0) [] [] [] [] [] [] :=
        ⟨B5.blk, RowR.none _ _ _ _ _, XR.none _ _ _, RowR.none _ _ _ _ _, XR.none _ _ _, XR.none _ _ _, XR.none _ _ _, hri, GrS.of_bel (Below.refl _ _), rfl, rfl, rfl, rfl, rfl, rfl, hr2⟩
      have hp5 := (B5.below.block w.heap.size (by omega)).trans HP4.out
      have hz5 := (B5.below.block (w.heap.size + 1) (by omega)).trans HZ4.out
      have ho5 := (B5.below.block w3.heap.size (by omega)).trans HO4.out
      have HB5 := Lib.hid B5
      have HR0 := Lib.hid hr0
      have HR1 := Lib.hid hr1
      have HR2 := Lib.hid hr2
      have HR3 := Lib.hid hr3
      have HR4 := Lib.hid hr4
      have HR5 := Lib.hid hr5
      have HR6 := Lib.hid hr6
      have HRI := Lib.hid hri
      have HELS := Lib.hid hels
      have HROW := Lib.hid hrow5
      have HGR := Lib.hid hgr0
      have HFX := Lib.hid hfx
      have HP5 := Lib.hid hp5
      have HZ5 := Lib.hid hz5
      have HO5 := Lib.hid ho5
      have HS5 := Lib.hid hs5
      have HB05 := Lib.hid (HBW.out.trans ((HB02.out.trans ((HB24.out.trans (B5.below.mono HB24.out.size)).mono HB02.out.size)).mono HBW.out.size))
      clear x0 x1 x2 x3 x4 x5 x6 x7 xl o0 o1 o2 o3 o4 o5 o6 o7 ol
      obtain ⟨x0, x1, x2, x3, x4, x5, x6, x7, xl⟩ := Row.of hp5
      clear B5 hρ0 hle0 hs2 hs34 hs23 hs5 hr0 hr1 hr2 hr3 hr4 hr5 hr6 hri hb35 hels hrow5 hgr0 hfx hp5 hz5 ho5 hn3
      go_wp2_with fail
      go_loopg [5, 6, 26] e.names.length (fun g s5 s6 i wr => ∃ (j : Nat) (ρ : Nat → Nat) (vf1 vf2 vo1 vo2 vl vs : Value) (F O : List ByteArray) (FX OX LX SX : List XM), j ≤ e.names.length ∧ g = e.names.length - j ∧ i = .int .i64 j ∧ vl = s5 ∧ vs = s6 ∧ Fx w0.heap.size e w5 ρ0 wo.heap.size j wr ρ vf1 vf2 vo1 vo2 vl vs F O FX OX LX SX)
      case atStart => exact ⟨0, ρ0, _, _, _, _, _, _, [], [], [], [], [], [], Nat.zero_le _, rfl, rfl, rfl, rfl, HFX.out⟩
      case round =>
        obtain ⟨j, ρ, vf1, vf2, vo1, vo2, vl, vs, F, O, FX, OX, LX, SX, hj, rfl, rfl, rfl, rfl, hx⟩ := hrel
        have HX := Lib.hid hx
        have hpr := hx.kept HP5.out (.inr (by rw [HR3.out]; decide))
        have hor := hx.kept HO5.out (.inl (HR1.out _ HS23.out (by have := HS34.out; omega)))
        have HPR := Lib.hid hpr
        have HOR := Lib.hid hor
        have HB0R := Lib.hid (HB05.out.trans ((hx.below HRI.out)))
        have hrow := own_same HROW.out (w' := wr) fun b e => (by cases e; exact (hx.gr.keep gr (HROW.out.lt gr rfl).2 (by rw [HGR.out]; show ¬ (1 ≤ 0 ∧ 0 ≤ 7); omega)))
        have HRW := Lib.hid hrow
        obtain ⟨x0, x1, x2, x3, x4, x5, x6, x7, xl⟩ := Row.of hpr
        obtain ⟨o0, o1, o2, o3, o4, o5, o6, o7, ol⟩ := Row.of hor
        clear hx hpr hor hrow
        by_cases hlt : j < e.names.length
        · obtain ⟨n, hn⟩ : ∃ n, e.names[j]? = some n := ⟨_, List.getElem?_eq_getElem hlt⟩
          obtain ⟨x, hxm, hy⟩ := M_at HES.out (j := j) (by rw [List.length_map]; have := HKL.out; omega)
          obtain ⟨nb, noff, hna, hnb, hnc⟩ := text_at (sl_bel HO.out.names HB0R.out) hn
          have hxx := HX.out.free (HELS.out x (List.mem_of_getElem? hxm))
          obtain ⟨⟨xan, xnn, xcn, t1⟩, ⟨xad, xnd, xcd, t2⟩, ⟨xak, xnk, xck, t3⟩⟩ := sliced_at hxx.at
          have hrc := rowC HRW.out hxm
          obtain ⟨xe, xnv, xdl, xkv⟩ := x
          dsimp only at t1 t2 t3 hy hxx
          subst t1 t2 t3 hna
          obtain ⟨r0, r1, r2, r3, r4, r5, r6, r7⟩ := hrc
          dsimp only at r0 r1 r2 r3 r4 r5 r6 r7
          have grl : gr < wr.heap.size := (HRW.out.lt gr rfl).2
          have g1 : (0 : Int) ≤ (j : Int) := by omega
          have g2 : (j : Int) < (e.names.length : Int) := by omega
          have g3 : (j : Int) < (M.length : Int) := by have := HML.out; omega
          have gw : IntKind.i64.wrap ((j : Int) + 1) = ((j + 1 : Nat) : Int) := by rw [IntKind.wrap_i64]; have := HN3.out; omega
          have HN := Lib.hid hn
          have HY := Lib.hid hy
          have HXX := Lib.hid hxx
          obtain ⟨wk, BK⟩ := boxed wr #[.int .i64 xe.kind, .string xe.name, .slice xan xnn xcn, .int .i64 xe.const.kind, .int .i64 xe.const.int, .string xe.const.text, .slice xad xnd xcd, .slice xak xnk xck] 28
          have HBK2 := Lib.hid BK
          clear hn hxm hy hxx BK
          go_upto_region 10 with fail
          rw [← HBK2.out.eq]
          obtain ⟨T, hT⟩ : ∃ T, Ex.tied (Ex.assigned e) (n, xe) = T := ⟨_, rfl⟩
          have HT := Lib.hid hT
          have hbk := HBK2.out.below
          have hRk := (Row.of HPR.out).bel hbk
          have HRK := Lib.hid hRk
          have HKK := Lib.hid (Row.of HBK2.out.blk)
          clear x0 x1 x2 x3 x4 x5 x6 x7 xl hT
          obtain ⟨x0, x1, x2, x3, x4, x5, x6, x7, xl⟩ := hRk
          obtain ⟨k0, k1, k2, k3, k4, k5, k6, k7, kl⟩ := HKK.out
          have HBRK := Lib.hid hbk
          clear hbk o0 o1 o2 o3 o4 o5 o6 o7 ol r0 r1 r2 r3 r4 r5 r6 r7 hnc
          go_cut [44] (fun s wx => s = .bool T ∧ Hid (Below wk.heap.size wk wx))
          case first =>
            by_cases h5 : xe.kind = 5
            · have q5 : (xe.kind == 5) = true := by rw [h5]; rfl
              have HQ : Hid (T = !Ex.assigned e n) := by unfold Hid; rw [← HT.out]; unfold Ex.tied; rw [decide_eq_true h5]; rfl
              have HAS := Lib.hid (pasg_any n e HF.out (HO.out.bel (HB0R.out.trans (HBRK.out.mono HB0R.out.size))))
              clear h5
              go_wp2_with fail
              with_reducible refine HAS.out.mono ?_
              rintro e2 w7 ⟨rfl, hb7⟩
              have HB7 := Lib.hid hb7
              clear hb7
              go_wp2_with fail
              go_meet
              exact ⟨by rw [HQ.out], HB7.out⟩
            · have q5 : (xe.kind == 5) = false := beq_eq_false_iff_ne.2 h5
              have HQ : Hid (T = false) := by unfold Hid; rw [← HT.out]; unfold Ex.tied; rw [decide_eq_false h5]; rfl
              clear h5
              go_wp2_with fail
              go_meet
              exact ⟨by rw [HQ.out], Below.refl _ _⟩
          case rest =>
            obtain ⟨rfl, hbq⟩ := hcut
            obtain ⟨wq, hwq⟩ : ∃ z, z = wc := ⟨_, rfl⟩
            subst hwq
            have HBQ := Lib.hid hbq
            have HBRQ : Hid (Below wr.heap.size wr wq) := HBRK.out.trans (hbq.out.mono HBRK.out.size)
            have HXQ := Lib.hid (HX.out.bel HBRQ.out)
            have HXXQ := Lib.hid (HXX.out.bel HBRQ.out)
            have HKQ := Lib.hid (HKK.out.bel hbq.out)
            obtain ⟨k0, k1, k2, k3, k4, k5, k6, k7, kl⟩ := HKQ.out
            have hlen := HX.out.lens
            have HLEN := Lib.hid hlen
            clear hbq hlen
            cases T with
            | true =>
              have HPT := Lib.hid (put_any w0.heap.size wo.heap.size 0 2 3 (fun a b => partC a b vo1 vo2) (view0 vo1 vo2) F FX n xe HXQ.out.rp (by decide) (by decide) (by decide) HXQ.out.blk HXQ.out.f1 HXQ.out.f2 HXQ.out.ri HXXQ.out (by have := HLEN.out; have := HN3.out; omega) (by have := HLEN.out; have := HN3.out; omega))
              go_wp2_with fail
              with_reducible refine HPT.out.mono ?_
              rintro e2 w7 hpost
              obtain ⟨rfl, ρ7, vf1', vf2', h7⟩ := HXQ.out.tie HN.out HY.out HT.out hpost
              have H7 := Lib.hid h7
              clear hpost h7
              go_wp2_with fail
              go_roundg (e.names.length - (j + 1))
              case measure => omega
              case rel => exact ⟨j + 1, ρ7, _, _, _, _, _, _, _, _, _, _, _, _, by omega, rfl, by go_num, rfl, rfl, H7.out⟩
            | false =>
              have HPM := Lib.hid (prim_any' ⟨#[37, 117, 110, 115, 101, 116]⟩ none 0 0)
              go_wp2_with fail
              with_reducible refine (HPM.out _).mono ?_
              rintro e2 w8 ⟨rfl, hb8⟩
              have HX8 := Lib.hid (HXQ.out.bel hb8)
              have HXX8 := Lib.hid (HXXQ.out.bel hb8)
              have HK8 : Hid (w8.heap[wr.heap.size]? = some (.cells #[.int .i64 xe.kind, .string xe.name, .slice xan xnn xcn, .int .i64 xe.const.kind, .int .i64 xe.const.int, .string xe.const.text, .slice xad xnd xcd, .slice xak xnk xck] 28 (0, 0))) := (hb8.block _ (Nat.lt_of_lt_of_le (by rw [HBK2.out.size]; omega) HBQ.out.out.size)).trans ((HBQ.out.out.block _ (by rw [HBK2.out.size]; omega)).trans HBK2.out.blk)
              have HPT : Hid (Calls Tryz.prog 44 #[.pointer (some ⟨wo.heap.size, 8, none⟩), .string n, .agg #[.int .i64 7, .string ⟨#[37, 117, 110, 115, 101, 116]⟩, .slice none 0 0, .int .i64 0, .int .i64 0, .string ⟨#[]⟩, .slice none 0 0, .slice none 0 0]] w8 (PutPost w0.heap.size wo.heap.size (fun a b => partC vf1 vf2 a b) 4 5 O OX n unsetX w8 ρ)) :=
                put_any w0.heap.size wo.heap.size 8 4 5 (fun a b => partC vf1 vf2 a b) (view8 vf1 vf2) O OX n Ex.unsetE HX8.out.rp (by decide) (by decide) (by decide) HX8.out.blk HX8.out.o1 HX8.out.o2 HX8.out.ri unset_free (by have := HLEN.out; have := HN3.out; omega) (by have := HLEN.out; have := HN3.out; omega)
              have hr8 : ρ wr.heap.size = 0 := HX.out.ri.hi _ (Nat.le_refl _)
              have HR8 := Lib.hid hr8
              clear hb8 k0 k1 k2 k3 k4 k5 k6 k7 kl hr8
              go_wp2_with fail
              with_reducible refine HPT.out.mono ?_
              rintro e2 w9 hpost
              obtain ⟨rfl, ρ9, vo1', vo2', h9, g9⟩ := HX8.out.half hpost
              have HH9 := Lib.hid h9
              have hk9 : w9.heap[wr.heap.size]? = some (.cells #[.int .i64 xe.kind, .string xe.name, .slice xan xnn xcn, .int .i64 xe.const.kind, .int .i64 xe.const.int, .string xe.const.text, .slice xad xnd xcd, .slice xak xnk xck] 28 (0, 0)) := (g9.keep _ (Array.getElem?_eq_some_iff.1 HK8.out).1 (by rw [HR8.out]; show ¬ (1 ≤ 0 ∧ 0 ≤ 7); omega)).trans HK8.out
              have hxx9 := free_grs HXX8.out (by show ¬ (1 ≤ 0 ∧ 0 ≤ 7); omega) g9
              have HXX9 := Lib.hid hxx9
              have HK9 := Lib.hid hk9
              obtain ⟨k0, k1, k2, k3, k4, k5, k6, k7, kl⟩ := Row.of hk9
              clear hpost h9 g9 hk9 hxx9
              obtain ⟨wa, BA⟩ := boxed w9 #[.int .i64 xe.kind, .string xe.name, .slice xan xnn xcn, .int .i64 xe.const.kind, .int .i64 xe.const.int, .string xe.const.text, .slice xad xnd xcd, .slice xak xnk xck] 28
              obtain ⟨wb, BB⟩ := boxed wa #[.int .i64 2, .string n, .slice none 0 0, .int .i64 0, .int .i64 0, .string ⟨#[]⟩, .slice none 0 0, .slice (some ⟨w9.heap.size, 0, none⟩) 1 1] 28
              have hba : Below w9.heap.size w9 wb := BA.below.trans (BB.below.mono BA.below.size)
              have hsz9 : wb.heap.size = w9.heap.size + 2 := by rw [BB.size, BA.size]
              have hsb : wb.heap[w9.heap.size + 1]? = some (.cells #[.int .i64 2, .string n, .slice none 0 0, .int .i64 0, .int .i64 0, .string ⟨#[]⟩, .slice none 0 0, .slice (some ⟨w9.heap.size, 0, none⟩) 1 1] 28 (0, 0)) := by
                have := BB.blk
                rw [BA.size] at this
                exact this
              have hkb := (BB.below.block _ (by rw [BA.size]; omega)).trans BA.blk
              have HHB := Lib.hid (HH9.out.bel hba)
              have HSF : Hid (Free0 ρ9 wb (fun w => ExAt w (XM.val (⟨Ex.setE n xe, .slice none 0 0, .slice none 0 0, .slice (some ⟨w9.heap.size, 0, none⟩) 1 1⟩ : XM)) (Ex.setE n xe))) := set_free n (x := ⟨xe, .slice xan xnn xcn, .slice xad xnd xcd, .slice xak xnk xck⟩) hkb (HH9.out.ri.hi _ (Nat.le_refl _)) (HXX9.out.bel hba)
              have HBA9 := Lib.hid BA
              have HBB9 := Lib.hid BB
              obtain ⟨i0, hi0, hz0, hz1, hz2⟩ := info_parts infoExpr
              have HI := Lib.hid hi0
              have HZ0 := Lib.hid hz0
              have HZ1 := Lib.hid hz1
              have HZ2 := Lib.hid hz2
              have HRB := Lib.hid ((Row.of HK9.out).bel hba)
              have HSB := Lib.hid (Row.of hsb)
              clear BA BB hba hsz9 hsb hkb hi0 hz0 hz1 hz2
              go_upto_region 14 with fail
              rw [← HBA9.out.eq, ← HBB9.out.eq]
              clear k0 k1 k2 k3 k4 k5 k6 k7 kl
              obtain ⟨k0, k1, k2, k3, k4, k5, k6, k7, kl⟩ := HRB.out
              obtain ⟨s0, s1, s2, s3, s4, s5, s6, s7, sl⟩ := HSB.out
              by_cases h5 : xe.kind = 5
              · have q5 : (xe.kind == 5) = true := by rw [h5]; rfl
                have HK5 := Lib.hid h5
                have HAP : Hid (AppX wb vl LX (⟨Ex.setE n xe, .slice none 0 0, .slice none 0 0, .slice (some ⟨w9.heap.size, 0, none⟩) 1 1⟩ : XM) (.int .i64 2) (.string n) (.slice none 0 0) (.int .i64 0) (.int .i64 0) (.string ⟨#[]⟩) (.slice none 0 0) (.slice (some ⟨w9.heap.size, 0, none⟩) 1 1)) := appX HHB.out.ls (Below.refl _ _) (⟨Ex.setE n xe, .slice none 0 0, .slice none 0 0, .slice (some ⟨w9.heap.size, 0, none⟩) 1 1⟩ : XM) ⟨_, _, _, rfl⟩ ⟨_, _, _, rfl⟩ ⟨_, _, _, rfl⟩
                clear h5
                go_wp2_with (first
                  | (at_builtin; refine wpList_append_v rfl (.tmp 60) (.tmp 62) 26 rfl 0 28 i0 _ 8 128 Tryz.underlying26 HI.out HZ0.out HZ1.out HZ2.out rfl (by decide) vl LX.length (flatX LX) rfl HAP.out.own (some ⟨wb.heap.size, 0, none⟩) 1 1 (XM.cells (⟨Ex.setE n xe, .slice none 0 0, .slice none 0 0, .slice (some ⟨w9.heap.size, 0, none⟩) 1 1⟩ : XM)) rfl HAP.out.len (.inr ⟨_, rfl, HAP.out.src⟩) HAP.out.one (by have := HLEN.out; have := HN3.out; simp only [maxLen]; omega) (by have := HLEN.out; have := HN3.out; omega) (Nat.zero_le _) (wb.heap.size + 1) HAP.out.size ?_; intro av6 cv6 w6 hown hgr hlb; generalize hv6 : Value.slice av6 (LX.length + 1) cv6 = v6' at hown hlb ⊢; clear hv6; have HOW6 := Lib.hid hown; have HGR6 := Lib.hid hgr; have HLB6 := Lib.hid hlb; clear hown hgr hlb)
                  | fail)
                obtain ⟨ρ6, h6⟩ := HHB.out.lam (x := ⟨xe, .slice xan xnn xcn, .slice xad xnd xcd, .slice xak xnk xck⟩) (sx := (⟨Ex.setE n xe, .slice none 0 0, .slice none 0 0, .slice (some ⟨w9.heap.size, 0, none⟩) 1 1⟩ : XM)) HN.out HY.out HT.out rfl rfl HK5.out HSF.out ((Below.refl _ _).alloc (Nat.le_refl _) _) HOW6.out HGR6.out (by rcases HLB6.out with h | h; exact .inl h; exact .inr (by simpa using h))
                have H6 := Lib.hid h6
                clear h6
                go_roundg (e.names.length - (j + 1))
                case measure => omega
                case rel => exact ⟨j + 1, ρ6, _, _, _, _, _, _, _, _, _, _, _, _, by omega, rfl, by go_num, rfl, rfl, H6.out⟩
              · have q5 : (xe.kind == 5) = false := beq_eq_false_iff_ne.2 h5
                have HK5 := Lib.hid h5
                have HAP : Hid (AppX wb vs SX (⟨Ex.setE n xe, .slice none 0 0, .slice none 0 0, .slice (some ⟨w9.heap.size, 0, none⟩) 1 1⟩ : XM) (.int .i64 2) (.string n) (.slice none 0 0) (.int .i64 0) (.int .i64 0) (.string ⟨#[]⟩) (.slice none 0 0) (.slice (some ⟨w9.heap.size, 0, none⟩) 1 1)) := appX HHB.out.ss (Below.refl _ _) (⟨Ex.setE n xe, .slice none 0 0, .slice none 0 0, .slice (some ⟨w9.heap.size, 0, none⟩) 1 1⟩ : XM) ⟨_, _, _, rfl⟩ ⟨_, _, _, rfl⟩ ⟨_, _, _, rfl⟩
                clear h5
                go_wp2_with (first
                  | (at_builtin; refine wpList_append_v rfl (.tmp 64) (.tmp 66) 26 rfl 0 28 i0 _ 8 128 Tryz.underlying26 HI.out HZ0.out HZ1.out HZ2.out rfl (by decide) vs SX.length (flatX SX) rfl HAP.out.own (some ⟨wb.heap.size, 0, none⟩) 1 1 (XM.cells (⟨Ex.setE n xe, .slice none 0 0, .slice none 0 0, .slice (some ⟨w9.heap.size, 0, none⟩) 1 1⟩ : XM)) rfl HAP.out.len (.inr ⟨_, rfl, HAP.out.src⟩) HAP.out.one (by have := HLEN.out; have := HN3.out; simp only [maxLen]; omega) (by have := HLEN.out; have := HN3.out; omega) (Nat.zero_le _) (wb.heap.size + 1) HAP.out.size ?_; intro av6 cv6 w6 hown hgr hlb; generalize hv6 : Value.slice av6 (SX.length + 1) cv6 = v6' at hown hlb ⊢; clear hv6; have HOW6 := Lib.hid hown; have HGR6 := Lib.hid hgr; have HLB6 := Lib.hid hlb; clear hown hgr hlb)
                  | fail)
                obtain ⟨ρ6, h6⟩ := HHB.out.set (x := ⟨xe, .slice xan xnn xcn, .slice xad xnd xcd, .slice xak xnk xck⟩) (sx := (⟨Ex.setE n xe, .slice none 0 0, .slice none 0 0, .slice (some ⟨w9.heap.size, 0, none⟩) 1 1⟩ : XM)) HN.out HY.out HT.out rfl rfl HK5.out HSF.out ((Below.refl _ _).alloc (Nat.le_refl _) _) HOW6.out HGR6.out (by rcases HLB6.out with h | h; exact .inl h; exact .inr (by simpa using h))
                have H6 := Lib.hid h6
                clear h6
                go_roundg (e.names.length - (j + 1))
                case measure => omega
                case rel => exact ⟨j + 1, ρ6, _, _, _, _, _, _, _, _, _, _, _, _, by omega, rfl, by go_num, rfl, rfl, H6.out⟩
        · have hje : j = e.names.length := by omega
          subst hje
          clear hj hlt
          obtain ⟨x, hxm, hy⟩ := M_at HES.out (j := e.names.length) (by rw [List.length_map]; have := HKL.out; omega)
          have hxx := HX.out.free (HELS.out x (List.mem_of_getElem? hxm))
          obtain ⟨⟨xan, xnn, xcn, t1⟩, ⟨xad, xnd, xcd, t2⟩, ⟨xak, xnk, xck, t3⟩⟩ := sliced_at hxx.at
          have hrc := rowC HRW.out hxm
          obtain ⟨xe, xnv, xdl, xkv⟩ := x
          dsimp only at t1 t2 t3 hy hxx
          subst t1 t2 t3
          obtain ⟨r0, r1, r2, r3, r4, r5, r6, r7⟩ := hrc
          dsimp only at r0 r1 r2 r3 r4 r5 r6 r7
          have grl : gr < wr.heap.size := (HRW.out.lt gr rfl).2
          have hge : (e.names.length : Int) ≤ (e.names.length : Int) := Int.le_refl _
          have g1 : (0 : Int) ≤ (e.names.length : Int) := by omega
          have g3 : (e.names.length : Int) < (M.length : Int) := by have := HML.out; omega
          have HXE := Lib.hid hxx
          have HY := Lib.hid hy
          have HXM := Lib.hid hxm
          have HLEN := Lib.hid HX.out.lens
          obtain ⟨asv, cs, hvs⟩ := XR.slice HX.out.ss
          subst hvs
          have hN6P : vl.ownBlock ≠ some w.heap.size := fun e6 => by have h6 := HX.out.ls.row.2 _ e6; rw [HX.out.gr.role _ (Array.getElem?_eq_some_iff.1 HP5.out).1, HR3.out] at h6; cases h6
          have hN6O : vl.ownBlock ≠ some w3.heap.size := fun e6 => by have h6 := HX.out.ls.row.2 _ e6; rw [HX.out.gr.role _ (Array.getElem?_eq_some_iff.1 HO5.out).1, HR1.out _ HS23.out (by have := HS34.out; omega)] at h6; cases h6
          have hN6G : vl.ownBlock ≠ some gr := fun e6 => by have h6 := HX.out.ls.row.2 _ e6; rw [HX.out.gr.role _ (HROW.out.lt gr rfl).2, HGR.out] at h6; cases h6
          have HN6P := Lib.hid hN6P
          have HN6O := Lib.hid hN6O
          have HN6G := Lib.hid hN6G
          have HC18 : Hid (C18 wr w.heap.size w3.heap.size gr e.names.length (.slice na e.names.length nc) (.slice (some ⟨gr, 0, none⟩) M.length cr) (⟨xe, .slice xan xnn xcn, .slice xad xnd xcd, .slice xak xnk xck⟩ : XM)) := ⟨(Row.of HPR.out).c2, (Row.of HOR.out).c7, rowC HRW.out hxm⟩
          have HNM : Hid (e.names.length < M.length) := by have := HML.out; unfold Hid; omega
          have HYB : Hid ((e.kids.map Ex.fixE)[e.names.length]?.getD Ex.zero = xe) := by unfold Hid; rw [hy]; rfl
          clear hxm hy hxx hN6P hN6O hN6G x0 x1 x2 x3 x4 x5 x6 x7 xl o0 o1 o2 o3 o4 o5 o6 o7 ol r0 r1 r2 r3 r4 r5 r6 r7
          go_upto_region 18 with fail
          refine reg18 HX.out HN3.out (fun b _ => (HR6.out b).2.2) HXE.out HNM.out HC18.out HN6P.out HN6O.out HN6G.out ?_
          intro u69 u70 u71 u72 u73 u74 u75 u76 u77 u78 u79 u80 u81 z y wz ρz hye hsl hbo
          obtain ⟨⟨yan, ynn, ycn, t1⟩, ⟨yad, ynd, ycd, t2⟩, ⟨yak, ynk, yck, t3⟩⟩ := hsl
          obtain ⟨ye, ynv, ydl, ykv⟩ := y
          dsimp only at t1 t2 t3 hye
          subst t1 t2 t3
          obtain ⟨fa, fc, hf1⟩ := RowR.slice hbo.f1
          subst hf1
          have HYE := Lib.hid hye
          have HBO := Lib.hid hbo
          obtain ⟨fl, hfl⟩ : ∃ fl, F.length = fl := ⟨_, rfl⟩
          have HFL := Lib.hid hfl
          have c2 : wz.cell? ⟨wo.heap.size, 2, none⟩ = some (.slice fa F.length fc) := cell_of_row _ _ 2 _ _ _ hbo.blk
          rw [hfl] at c2 HBO
          clear hye hbo hfl
          by_cases h0 : fl = 0
          case' pos =>
            subst h0
            go_upto_region 21 with fail
            obtain ⟨wy, hwy⟩ : ∃ z, z = wz := ⟨_, rfl⟩
            subst hwy
            obtain ⟨ρ2, ze, zan, znn, zcn, zad, znd, zcd, zak, znk, zck, HY2, HBQ⟩ : ∃ ρ2 ze zan znn zcn zad znd zcd zak znk zck, Hid (ze = Ex.fixN F (FX.map (·.e)) ye) ∧ Hid (Bq w0.heap.size w5 ρ0 wo.heap.size wy ρ2 vo1 vo2 O OX z (⟨ze, .slice zan znn zcn, .slice zad znd zcd, .slice zak znk zck⟩ : XM)) :=
              ⟨ρz, ye, yan, ynn, ycn, yad, ynd, ycd, yak, ynk, yck, by have e0 := List.length_eq_zero_iff.1 HFL.out; subst e0; rfl, HBO.out.q⟩
            clear HBO HFL c2
          case' neg =>
            have gf : (0 : Int) < (fl : Int) := by omega
            go_upto_region 20 with fail
            refine reg20 HBO.out (by have := HLEN.out; have := HN3.out; omega) (fun b _ => ⟨(HR6.out b).1, (HR6.out b).2.1⟩) ?_
            intro u87 u88 u89 u90 u91 u92 u93 u94 u95 u96 v7 wy ρy hbq
            obtain ⟨_, _, zak, znk, zck, rfl⟩ := sliced_at hbq.ex.at
            obtain ⟨ρ2, ze, zan, znn, zcn, zad, znd, zcd, zak, znk, zck, HY2, HBQ⟩ : ∃ ρ2 ze zan znn zcn zad znd zcd zak znk zck, Hid (ze = Ex.fixN F (FX.map (·.e)) ye) ∧ Hid (Bq w0.heap.size w5 ρ0 wo.heap.size wy ρ2 vo1 vo2 O OX z (⟨ze, .slice zan znn zcn, .slice zad znd zcd, .slice zak znk zck⟩ : XM)) :=
              ⟨ρy, _, fa, fl, fc, none, 0, 0, zak, znk, zck, by unfold Hid Ex.fixN; rw [if_neg (by cases F with | nil => exact absurd HFL.out.symm h0 | cons _ _ => exact Bool.false_ne_true)], hbq⟩
            clear HBO HFL c2 hbq gf h0
            go_upto_region 21 with fail
          all_goals
            obtain ⟨va, vb, hblk⟩ := HBQ.out.blk
            obtain ⟨oa, oc, ho1⟩ := RowR.slice HBQ.out.o1
            subst ho1
            obtain ⟨ob, od, ho2⟩ := XR.slice HBQ.out.o2
            subst ho2
            have c10 : wy.cell? ⟨wo.heap.size, 10, none⟩ = some (.slice oa O.length oc) := cell_of_row _ _ 10 _ _ _ hblk
            have c15 : wy.cell? ⟨wo.heap.size, 15, none⟩ = some (.slice ob OX.length od) := cell_of_row _ _ 15 _ _ _ hblk
            have hbl := (Array.getElem?_eq_some_iff.1 hblk).1
            obtain ⟨z0, z1, z2, z3, z4, z5, z6, z7, zl⟩ := Row.of HBQ.out.body
            have HLT := Lib.hid (let_any O OX ze (na := oa) (nc := oc) (an := zan) (ad := zad) (ak := zak) (nn := znn) (cn := zcn) (nd := znd) (cd := zcd) (nk := znk) (ck := zck) HBQ.out.o2.row.1 (fun x hx => sliced_at (HBQ.out.o2.els x hx).at) (by have := HLEN.out; have := HN3.out; omega))
            have hz5 := (HBQ.out.gr.keep _ (Array.getElem?_eq_some_iff.1 HZ5.out).1 (by rw [HR4.out]; show ¬ (1 ≤ 9 ∧ 9 ≤ 7); omega)).trans HZ5.out
            have HZY := Lib.hid hz5
            have HTIE := Lib.hid (tie_of HX.out HYE.out HY2.out)
            have h8 : Hid (∀ b, w0.heap.size ≤ b → b < w.heap.size → ρ2 b = 8) := fun b h1 h2 => (HBQ.out.gr.role b (by have := (Array.getElem?_eq_some_iff.1 HP5.out).1; omega)).trans (HR5.out b h1 h2)
            have h9 : Hid (ρ2 (w.heap.size + 1) = 9) := (HBQ.out.gr.role _ (Array.getElem?_eq_some_iff.1 HZ5.out).1).trans HR4.out
            have hwy : Hid (Below w.heap.size w wy) := by
              have k5 : Below w.heap.size w w5 := HB02.out.trans ((HB24.out.trans (HB5.out.below.mono HB24.out.size)).mono HB02.out.size)
              refine k5.trans (HBQ.out.gr.bel (fun b hb => ?_) k5.size)
              by_cases hb0 : b < w0.heap.size
              · rw [HR0.out b hb0]; show ¬ (1 ≤ 0 ∧ 0 ≤ 7); omega
              · rw [HR5.out b (by omega) hb]; show ¬ (1 ≤ 8 ∧ 8 ≤ 7); omega
            clear hblk hz5
            go_wp2_with fail
            with_reducible refine HLT.out.mono ?_
            rintro e2 w8 (⟨hl0, rfl, hb8⟩ | ⟨hl0, g, c, rfl, hown, hb8⟩)
            · have hz8 := (hb8.block _ (Array.getElem?_eq_some_iff.1 HZY.out).1).trans HZY.out
              have HZ8 := Lib.hid hz8
              have HB8 := Lib.hid hb8
              have HL0 := Lib.hid hl0
              obtain ⟨⟨_, s0⟩, ⟨_, s1⟩, ⟨_, s2⟩, ⟨_, s3⟩, ⟨_, s4⟩, ⟨_, s5⟩, ⟨_, s6⟩, ⟨_, s7⟩, q0, q1, q2, q3, q4, q5, q6, q7, sbl⟩ := blk8 hz8
              unfold XM.val exV
              dsimp only
              clear hb8 hz8 hl0 z0 z1 z2 z3 z4 z5 z6 z7 zl c10 c15 hbl
              go_wp2_with fail
              refine bodyPost_ret (res1 rfl _ _ (w.heap.size + 1) 28 #[.int .i64 ze.kind, .string ze.name, .slice zan znn zcn, .int .i64 ze.const.kind, .int .i64 ze.const.int, .string ze.const.text, .slice zad znd zcd, .slice zak znk zck] (0, 0) rfl (eight_set _ _ _ _ _ _ _ _ _ _ _ (.int .i64 ze.kind) (.string ze.name) (.slice zan znn zcn) (.int .i64 ze.const.kind) (.int .i64 ze.const.int) (.string ze.const.text) (.slice zad znd zcd) (.slice zak znk zck) HZ8.out) exprD exprSize) rfl ?_
              show MadePost w0.heap.size (Ex.fixE e) w _ (put8 w8 (w.heap.size + 1) (.int .i64 ze.kind) (.string ze.name) (.slice zan znn zcn) (.int .i64 ze.const.kind) (.int .i64 ze.const.int) (.string ze.const.text) (.slice zad znd zcd) (.slice zak znk zck))
              have he : ze = Ex.fixE e := by
                rw [HE.out, HYB.out, HTIE.out, List.length_eq_zero_iff.1 HL0.out]
                rfl
              have hon := made_of (z := w.heap.size + 1) HBW.out.size HBQ.out.ex (fun b h => .inl h) HB8.out h8.out h9.out (.int .i64 ze.kind) (.string ze.name) (.slice zan znn zcn) (.int .i64 ze.const.kind) (.int .i64 ze.const.int) (.string ze.const.text) (.slice zad znd zcd) (.slice zak znk zck)
              have hbw := below_put8 (g := w.heap.size + 1) (h8y hwy.out HB8.out) (Nat.le_succ _) (.int .i64 ze.kind) (.string ze.name) (.slice zan znn zcn) (.int .i64 ze.const.kind) (.int .i64 ze.const.int) (.string ze.const.text) (.slice zad znd zcd) (.slice zak znk zck)
              unfold MadePost
              with_reducible refine ⟨⟨ze, .slice zan znn zcn, .slice zad znd zcd, .slice zak znk zck⟩, he, ?_, hon, hbw⟩
              rfl
            · have hz8 := (hb8.block _ (Array.getElem?_eq_some_iff.1 HZY.out).1).trans HZY.out
              have HZ8 := Lib.hid hz8
              have HB8 := Lib.hid hb8
              have HL0 := Lib.hid hl0
              have HOW8 := Lib.hid hown
              obtain ⟨⟨_, s0⟩, ⟨_, s1⟩, ⟨_, s2⟩, ⟨_, s3⟩, ⟨_, s4⟩, ⟨_, s5⟩, ⟨_, s6⟩, ⟨_, s7⟩, q0, q1, q2, q3, q4, q5, q6, q7, sbl⟩ := blk8 hz8
              clear hb8 hz8 hl0 hown z0 z1 z2 z3 z4 z5 z6 z7 zl c10 c15 hbl
              go_wp2_with fail
              refine bodyPost_ret (res1 rfl _ _ (w.heap.size + 1) 28 #[.int .i64 8, .string ⟨#[]⟩, .slice oa O.length oc, .int .i64 0, .int .i64 0, .string ⟨#[]⟩, .slice none 0 0, .slice (some ⟨g, 0, none⟩) (OX.length + 1) c] (0, 0) rfl (eight_set _ _ _ _ _ _ _ _ _ _ _ (.int .i64 8) (.string ⟨#[]⟩) (.slice oa O.length oc) (.int .i64 0) (.int .i64 0) (.string ⟨#[]⟩) (.slice none 0 0) (.slice (some ⟨g, 0, none⟩) (OX.length + 1) c) HZ8.out) exprD exprSize) rfl ?_
              show MadePost w0.heap.size (Ex.fixE e) w _ (put8 w8 (w.heap.size + 1) (.int .i64 8) (.string ⟨#[]⟩) (.slice oa O.length oc) (.int .i64 0) (.int .i64 0) (.string ⟨#[]⟩) (.slice none 0 0) (.slice (some ⟨g, 0, none⟩) (OX.length + 1) c))
              have he : Ex.mk 8 ⟨#[]⟩ O Dt.zero (OX.map (·.e) ++ [ze]) = Ex.fixE e := by
                rw [HE.out, HYB.out, HTIE.out]
                unfold Ex.letE
                rw [if_neg (by cases O with | nil => exact absurd rfl HL0.out | cons _ _ => exact Bool.false_ne_true)]
              have hon := made_of (z := w.heap.size + 1) HBW.out.size (let_on HBQ.out HB8.out HOW8.out) (fun b h => h) (Below.refl _ _) h8.out h9.out (.int .i64 8) (.string ⟨#[]⟩) (.slice oa O.length oc) (.int .i64 0) (.int .i64 0) (.string ⟨#[]⟩) (.slice none 0 0) (.slice (some ⟨g, 0, none⟩) (OX.length + 1) c)
              have hbw := below_put8 (g := w.heap.size + 1) (h8y hwy.out HB8.out) (Nat.le_succ _) (.int .i64 8) (.string ⟨#[]⟩) (.slice oa O.length oc) (.int .i64 0) (.int .i64 0) (.string ⟨#[]⟩) (.slice none 0 0) (.slice (some ⟨g, 0, none⟩) (OX.length + 1) c)
              unfold MadePost
              with_reducible refine ⟨⟨.mk 8 ⟨#[]⟩ O Dt.zero (OX.map (·.e) ++ [ze]), .slice oa O.length oc, .slice none 0 0, .slice (some ⟨g, 0, none⟩) (OX.length + 1) c⟩, he, ?_, ?_, hbw⟩
              · rfl
              · exact hon
  · have h9 : (e.kind != 9) = true := by rw [bne_iff_ne]; exact fun h => hk (.inl h)
    have h10 : (e.kind != 10) = true := by rw [bne_iff_ne]; exact fun h => hk (.inr h)
    have HE : Hid (Ex.fixE e = .mk e.kind e.name e.names e.const (e.kids.map Ex.fixE)) := by unfold Hid; rw [Ex.fixE_eq, if_neg hk]
    obtain ⟨⟨_, s0⟩, ⟨_, s1⟩, ⟨_, s2⟩, ⟨_, s3⟩, ⟨_, s4⟩, ⟨_, s5⟩, ⟨_, s6⟩, ⟨_, s7⟩, q0, q1, q2, q3, q4, q5, q6, q7, sbl⟩ := blk8 HZ4.out
    clear hk
    go_wp2_with fail
    refine bodyPost_ret (res1 rfl _ _ (w.heap.size + 1) 28 #[.int .i64 e.kind, .string e.name, .slice na e.names.length nc, .int .i64 e.const.kind, .int .i64 e.const.int, .string e.const.text, .slice da dn dc, .slice ar M.length cr] (0, 0) rfl (eight_set _ _ _ _ _ _ _ _ _ _ _ (.int .i64 e.kind) (.string e.name) (.slice na e.names.length nc) (.int .i64 e.const.kind) (.int .i64 e.const.int) (.string e.const.text) (.slice da dn dc) (.slice ar M.length cr) HZ4.out) exprD exprSize) rfl ?_
    show MadePost w0.heap.size (Ex.fixE e) w _ (put8 w4 (w.heap.size + 1) (.int .i64 e.kind) (.string e.name) (.slice na e.names.length nc) (.int .i64 e.const.kind) (.int .i64 e.const.int) (.string e.const.text) (.slice da dn dc) (.slice ar M.length cr))
    rw [HE.out]
    have hb4 : Below w.heap.size w w4 := HB02.out.trans (HB24.out.mono HB02.out.size)
    refine ⟨⟨.mk e.kind e.name e.names e.const (e.kids.map Ex.fixE), .slice na e.names.length nc, .slice da dn dc, .slice ar M.length cr⟩, rfl, rfl, ?_, below_put8 hb4 (Nat.le_succ _) _ _ _ _ _ _ _ _⟩
    have hs2 := HS2.out
    have hb34 := HB4.out.below
    have hkids : On (fun b => b < w0.heap.size ∨ w2.heap.size ≤ b) w3 (fun w => KidsAt w (.slice ar M.length cr) (M.map (·.e))) := On.kids HOW.out (fun b e => .inr (HBK.out b e)) HEL.out
    rw [HES.out] at hkids
    have hle0 := HBW.out.size
    have hnot : ¬ (fun b => b < w0.heap.size ∨ w2.heap.size ≤ b) (w.heap.size + 1) := fun h => by
      have h : w.heap.size + 1 < w0.heap.size ∨ w2.heap.size ≤ w.heap.size + 1 := h
      omega
    have hb04 := HBW.out.trans (hb4.mono HBW.out.size)
    have hall : On (fun b => b < w0.heap.size ∨ w2.heap.size ≤ b) w4 (fun w => ExAt w (exV e.kind e.name (.slice na e.names.length nc) e.const (.slice da dn dc) (.slice ar M.length cr)) (.mk e.kind e.name e.names e.const (e.kids.map Ex.fixE))) :=
      On.mk (On.sl HO.out.names hb04 fun b hb => .inl hb) (On.dt HO.out.const hb04 fun b hb => .inl hb) ⟨_, _, _, rfl, HO.out.room⟩ (hkids.bel hb34)
    exact (on_put8 hall hnot _ _ _ _ _ _ _ _).mono fun b hb _ => hb.imp id fun h => by omega
end Ew
end Go.Proofs.YtkplkgdfphbldaaGreat
namespace Go.Proofs.YtkplkgdfphbldaaGreat
open Go.RowKit
set_option linter.unusedVariables false
set_option linter.unusedSimpArgs false
set_option maxRecDepth 100000
namespace Ew
open Rn
theorem all_formC (e : Ex) : Ex.Fit e → e.size ≤ 4096 → (Ex.all formC e = true ↔ Ex.all Ex.form e = true) := by
  induction e using Ex.byKids with
  | h e ih =>
    intro hf hs
    have h1 := Ex.size_eq e
    have h2 := Ex.sizes_len e.kids
    have hF := fits_of hf
    rw [Ex.all_iff, Ex.all_iff, formC_iff e hF.kl hF.nl]
    constructor
    · rintro ⟨⟨a, _⟩, b⟩
      exact ⟨a, fun x hx => (ih x hx (fit_kid hf hx) (by have := Ex.size_mem _ _ hx; omega)).1 (b x hx)⟩
    · rintro ⟨a, b⟩
      exact ⟨⟨a, fun _ => by omega⟩, fun x hx => (ih x hx (fit_kid hf hx) (by have := Ex.size_mem _ _ hx; omega)).2 (b x hx)⟩
theorem chkC_zero {e : Ex} (hf : Ex.Fit e) : (Ex.chk formC e 0 0).2 = 0 ↔ Ex.ok e = true := by
  rw [Ex.ok_iff, (Ex.chk_ok formC _ e (Nat.le_refl _) 0 0 (by omega)).2.1]
  constructor
  · rintro ⟨a, b, c⟩
    exact ⟨(all_formC e hf (by omega)).1 a, by omega, by omega⟩
  · rintro ⟨a, b, c⟩
    exact ⟨(all_formC e hf c).2 a, by omega, by omega⟩
theorem few_of_ok {e : Ex} (h : Ex.ok e = true) : Few e ∧ Ex.all thin e = true := by
  obtain ⟨a, b, c⟩ := (Ex.ok_iff e).1 h
  exact few_of_form e a (by omega)
def ToldPost (e : Ex) (w : World) (en : Ending) (w' : World) : Prop :=
  (Ex.ok e = true ∧ ∃ x : XM, x.e = e ∧ en = .returned (.tuple #[x.val, .int .i64 0]) ∧ On (fun b => w.heap.size ≤ b) w' (fun w => ExAt w x.val x.e) ∧ Below w.heap.size w w') ∨ (Ex.ok e = false ∧ en = .returned (.tuple #[zeroV, .int .i64 101]) ∧ Below w.heap.size w w')
set_option maxHeartbeats 16000000 in
theorem told_any (e : Ex) {w : World} {na : Option Addr} {nc : Nat} {da : Option Addr} {dn dc : Nat} {ka : Option Addr} {kc : Nat} (hf : Ex.Fit e) (ho : Op w e na nc da dn dc ka kc) :
    Calls Tryz.prog 24 #[.agg #[.int .i64 e.kind, .string e.name, .slice na e.names.length nc, .int .i64 e.const.kind, .int .i64 e.const.int, .string e.const.text, .slice da dn dc, .slice ka e.kids.length kc]] w (ToldPost e w) := by
  obtain ⟨w1, B1⟩ := boxed w #[.int .i64 e.kind, .string e.name, .slice na e.names.length nc, .int .i64 e.const.kind, .int .i64 e.const.int, .string e.const.text, .slice da dn dc, .slice ka e.kids.length kc] 28
  obtain ⟨w2, B2⟩ := boxed w1 #[.int .i64 0, .string ⟨#[]⟩, .slice none 0 0, .int .i64 0, .int .i64 0, .string ⟨#[]⟩, .slice none 0 0, .slice none 0 0] 28
  have hB02 : Below w.heap.size w w2 := B1.below.trans (B2.below.mono B1.below.size)
  have hsz2 : w2.heap.size = w.heap.size + 2 := by rw [B2.size, B1.size]
  have hZ : w2.heap[w.heap.size + 1]? = some (.cells #[.int .i64 0, .string ⟨#[]⟩, .slice none 0 0, .int .i64 0, .int .i64 0, .string ⟨#[]⟩, .slice none 0 0, .slice none 0 0] 28 (0, 0)) := by
    have := B2.blk
    rw [B1.size] at this
    exact this
  have hP := (B2.below.block _ (by rw [B1.size]; omega)).trans B1.blk
  have HBA := Lib.hid B1
  have HBB := Lib.hid B2
  have HZB := Lib.hid hZ
  have HPB := Lib.hid hP
  have HB02 := Lib.hid hB02
  have HS2 := Lib.hid hsz2
  have HO := Lib.hid ho
  have HCK := Lib.hid (pCheck_any e hf (ho.bel hB02))
  have HCZ := Lib.hid (chkC_zero hf)
  obtain ⟨f, hfv⟩ : ∃ f, (Ex.chk formC e 0 0).2 = f := ⟨_, rfl⟩
  rw [hfv] at HCK HCZ
  obtain ⟨x0, x1, x2, x3, x4, x5, x6, x7, hbl⟩ := Row.of hP
  clear B1 B2 hB02 hsz2 hZ hP ho hf hfv
  go_enter Tryz.func24, Tryz.ntmps24
  go_upto_region 1 with fail
  rw [← HBA.out.eq, ← HBB.out.eq]
  by_cases hz : f = 0
  · have hok := HCZ.out.1 hz
    subst hz
    have HOK := Lib.hid hok
    have HFW := Lib.hid (few_of_ok hok).1
    clear hok
    go_wp2_with (first
      | (go_at_call 23; (with_reducible refine HCK.out.mono ?_); rintro e2 w3 ⟨rfl, hb3⟩; have hp3 := (hb3.block w.heap.size (by rw [HS2.out]; omega)).trans HPB.out; have HZ3 := Lib.hid ((hb3.block (w.heap.size + 1) (by rw [HS2.out]; omega)).trans HZB.out); have HB3 : Hid (Below w.heap.size w w3) := HB02.out.trans (hb3.mono HB02.out.size); have hs3 : w.heap.size + 2 ≤ w3.heap.size := (by have h1 := hb3.size; have h2 := HS2.out; omega); have HS3 := Lib.hid hs3; obtain ⟨y0, y1, y2, y3, y4, y5, y6, y7, ybl⟩ := Row.of hp3; have HCP := Lib.hid (copied_any w e HFW.out HO.out HB3.out); unfold MadePost at HCP; clear hb3 hp3 hs3)
      | (go_at_call 41; (with_reducible refine HCP.out.mono ?_); rintro e2 w5 ⟨⟨xe, xn, xd, xk⟩, hxe, rfl, hon, hb5⟩; obtain ⟨⟨an, nnn, cn, hs1⟩, ⟨ad, ndn, cd, hs2⟩, ⟨ak, nkn, ck, hs3⟩⟩ := ExAt.slices hon.at; dsimp only at hxe hs1 hs2 hs3 hon; subst hxe hs1 hs2 hs3; unfold XM.val exV; dsimp only; have HON := Lib.hid hon; have HB5 := Lib.hid hb5; have hz5 := (hb5.block (w.heap.size + 1) (by have := HS3.out; omega)).trans HZ3.out; have HZ5 := Lib.hid hz5; obtain ⟨⟨_, s0⟩, ⟨_, s1⟩, ⟨_, s2⟩, ⟨_, s3⟩, ⟨_, s4⟩, ⟨_, s5⟩, ⟨_, s6⟩, ⟨_, s7⟩, q0, q1, q2, q3, q4, q5, q6, q7, sbl⟩ := blk8 hz5; clear hon hb5 hz5)
      | fail)
    refine bodyPost_ret (res2 rfl _ _ (w.heap.size + 1) 28 #[.int .i64 xe.kind, .string xe.name, .slice an nnn cn, .int .i64 xe.const.kind, .int .i64 xe.const.int, .string xe.const.text, .slice ad ndn cd, .slice ak nkn ck] (0, 0) rfl (eight_set _ _ _ _ _ _ _ _ _ _ _ (.int .i64 xe.kind) (.string xe.name) (.slice an nnn cn) (.int .i64 xe.const.kind) (.int .i64 xe.const.int) (.string xe.const.text) (.slice ad ndn cd) (.slice ak nkn ck) HZ5.out) exprD exprSize) rfl ?_
    show ToldPost xe w _ (put8 w5 (w.heap.size + 1) (.int .i64 xe.kind) (.string xe.name) (.slice an nnn cn) (.int .i64 xe.const.kind) (.int .i64 xe.const.int) (.string xe.const.text) (.slice ad ndn cd) (.slice ak nkn ck))
    have hs3 := HS3.out
    have hnot : ¬ (fun b => b < 0 ∨ w3.heap.size ≤ b) (w.heap.size + 1) := fun h => by
      have h : w.heap.size + 1 < 0 ∨ w3.heap.size ≤ w.heap.size + 1 := h
      omega
    exact .inl ⟨HOK.out, ⟨xe, .slice an nnn cn, .slice ad ndn cd, .slice ak nkn ck⟩, rfl, rfl, (on_put8 HON.out hnot _ _ _ _ _ _ _ _).mono (fun b hb _ => hb.elim (fun h => by omega) fun h => by show w.heap.size ≤ b; omega), below_put8 (HB3.out.trans (HB5.out.mono HB3.out.size)) (Nat.le_succ _) _ _ _ _ _ _ _ _⟩
  · have hok : Ex.ok e = false := by
      rw [Bool.eq_false_iff]
      exact fun h => hz (HCZ.out.2 h)
    have HOK := Lib.hid hok
    have kz : (f != 0) = true := by rw [bne_iff_ne]; exact hz
    clear hok hz
    go_wp2_with (first
      | (go_at_call 23; (with_reducible refine HCK.out.mono ?_); rintro e2 w3 ⟨rfl, hb3⟩; have hz3 := (hb3.block (w.heap.size + 1) (by rw [HS2.out]; omega)).trans HZB.out; have HZ3 := Lib.hid hz3; have HB3 : Hid (Below w.heap.size w w3) := HB02.out.trans (hb3.mono HB02.out.size); obtain ⟨⟨_, s0⟩, ⟨_, s1⟩, ⟨_, s2⟩, ⟨_, s3⟩, ⟨_, s4⟩, ⟨_, s5⟩, ⟨_, s6⟩, ⟨_, s7⟩, q0, q1, q2, q3, q4, q5, q6, q7, sbl⟩ := blk8 hz3; clear hb3 hz3)
      | fail)
    refine bodyPost_ret (res2 rfl _ _ (w.heap.size + 1) 28 #[.int .i64 0, .string ⟨#[]⟩, .slice none 0 0, .int .i64 0, .int .i64 0, .string ⟨#[]⟩, .slice none 0 0, .slice none 0 0] (0, 0) rfl (eight_set _ _ _ _ _ _ _ _ _ _ _ (.int .i64 0) (.string ⟨#[]⟩) (.slice none 0 0) (.int .i64 0) (.int .i64 0) (.string ⟨#[]⟩) (.slice none 0 0) (.slice none 0 0) HZ3.out) exprD exprSize) rfl ?_
    show ToldPost e w _ (put8 w3 (w.heap.size + 1) (.int .i64 0) (.string ⟨#[]⟩) (.slice none 0 0) (.int .i64 0) (.int .i64 0) (.string ⟨#[]⟩) (.slice none 0 0) (.slice none 0 0))
    exact .inr ⟨HOK.out, rfl, below_put8 HB3.out (Nat.le_succ _) _ _ _ _ _ _ _ _⟩
end Ew
end Go.Proofs.YtkplkgdfphbldaaGreat
