/- The reference's machine of expressions: pop. -/
import Derived.Test.YtkplkgdfphbldaaGreatHJba
import Derived.Test.YtkplkgdfphbldaaGreatHJbb
namespace Go.Proofs.YtkplkgdfphbldaaGreat
open Go.RowKit
open Go.Lib (hid)
set_option linter.unusedVariables false
set_option linter.unusedSimpArgs false
set_option linter.unnecessarySimpa false
set_option maxRecDepth 100000
namespace Rn
section
variable {w0 w w' : World} {ρ ρ' : Nat → Nat} {m most : Nat} {s s' : St} {q q' : Wh}
def PopPost (w0 : World) (ρ : Nat → Nat) (m most : Nat) (cv : Value) (s' : St) (l : List Hp.V) (w : World) (e : Ending) (w' : World) : Prop :=
 ∃ lv, e = .returned lv ∧ w'.ownsRow w.heap.size 78 3 lv l.length (Hp.flatV l) ∧ ∃ ρ' q', RnO w0 w' ρ' m most s' q' ∧ Mv w ρ w' ρ' ∧ (∀ b, lv.ownBlock = some b → ρ' b = 0) ∧ q'.cv = cv
theorem popped_length (s : St) (n : Nat) (h : n ≤ s.vals.length) : (s.popped n).length = n := by unfold St.popped; simp; omega
theorem popped_rev (s : St) (n : Nat) (h : n ≤ s.vals.length) : s.vals.reverse = (s.pop n).vals.reverse ++ s.popped n := by
 unfold St.popped St.pop
 rw [← List.reverse_append, List.take_append_drop]
theorem src_part {w : World} {g n cap : Nat} {l r : List Hp.V} (h : w.ownsRow 0 78 3 (.slice (some ⟨g, 0, none⟩) n cap) n (Hp.flatV (l ++ r))) (j : Nat) (u : Value) (hu : (Hp.flatV r)[j]? = some u) : w.cell? ((⟨g, l.length * 3, none⟩ : Addr).add j) = some u := by
 have hj : j < (Hp.flatV r).length := (List.getElem?_eq_some_iff.1 hu).1
 have hl := h.1
 rw [Hp.flatV_append, List.length_append, Hp.flatV_length l] at hl
 rw [Go.WideShapes.add_plain]
 show w.cell? ⟨g, l.length * 3 + j, none⟩ = some u
 rw [h.cellAt _ (by omega), Hp.flatV_append, List.getElem?_append_right (by rw [Hp.flatV_length]; omega), Hp.flatV_length, ← hu]
 congr 1
 omega
theorem zero_row (w : World) (t : TypeId) (size : Nat) : (w.alloc (.cells #[] t)).ownsRow w.heap.size t size (.slice (some ⟨w.heap.size, 0, none⟩) 0 0) 0 [] :=
 ⟨by simp, .inr ⟨w.heap.size, 0, #[], rfl, Nat.le_refl _, heap_alloc_new w _, Nat.le_refl _, by decide, by simp, by simp⟩⟩
theorem pop_mk {n : Nat} {av : Option Addr} {cv : Nat} (h : RnO w0 w ρ m most s q) (hn : n ≤ s.vals.length) {wa w2 : World} (hb : Below w.heap.size w wa) (hsz : w.heap.size < wa.heap.size) (hown : w2.ownsRow w.heap.size 78 3 (.slice av n cv) n (Hp.flatV (s.popped n)))
  (hg : wa.grownBy w2 (some w.heap.size)) : RnO w0 w2 ρ m most s q ∧ Mv w ρ w2 ρ ∧ ∀ b, (Value.slice av n cv).ownBlock = some b → ρ b = 0 := by
 have hB : Below w.heap.size w w2 := ⟨hg.os.trans hb.os, hg.tape.trans hb.tape, hg.output.trans hb.output, Nat.le_trans hb.size hg.size, fun b hb' => (hg.block b (by omega) fun e => by cases e; omega).trans (hb.block b hb')⟩
 exact ⟨h.bel hB, mv_bel hB ρ, fun b e => h.c.new (hown.lt b e).1⟩
theorem pop_end {n : Nat} {lv : Value} {a : Option Addr} {cap : Nat} {w2 : World} (h : RnO w0 w2 ρ m most s q) (hn : n ≤ s.vals.length) (hq : q.vv = .slice a s.vals.length cap) (hr : ∀ b, lv.ownBlock = some b → ρ b = 0) (hown : w2.ownsRow w.heap.size 78 3 lv n (Hp.flatV (s.popped n))) (hv : Mv w ρ w2 ρ) (hm : m < w.heap.size) :
  PopPost w0 ρ m most q.cv (s.pop n) (s.popped n) w (.returned lv) (w2.setCell ⟨m, 11, none⟩ (.slice a (s.vals.length - n) cap)) := by
 have hrow : RowR w2 ρ 8 78 3 (s.pop n).vals.length (.slice a (s.vals.length - n) cap) (Hp.flatV (s.pop n).vals.reverse) := by
  have h1 := h.c.vals.1
  rw [hq] at h1
  have h2 := own_take h1 (k := s.vals.length - n) (by omega)
  rw [flatV_take, popped_rev s n hn, List.take_left' (by simp [St.pop])] at h2
  refine ⟨by simpa [St.pop] using h2, fun b e => h.c.vals.2 b ?_⟩
  rw [hq]
  cases a with
  | none => cases e
  | some ad => exact e
 refine ⟨lv, rfl, ?_, ρ, { q with vv := .slice a (s.vals.length - n) cap }, RnO.set2 (s := s) (q := q) (s' := s.pop n) (q' := { q with vv := .slice a (s.vals.length - n) cap }) h.blk ⟨h.c.heap, h.c.cells, h.c.procs, h.c.out, h.c.todo, hrow, h.c.mp, h.c.mt, h.c.pok, h.c.tok, h.c.me, h.c.lo, h.c.below⟩ 11 _ rfl, ?_, hr, rfl⟩
 ·rw [popped_length s n hn]
  refine own_same hown fun b e => heap_setCell_other _ _ _ _ fun e2 => ?_
  have := hr b e
  rw [e2, h.c.me] at this
  cases this
 ·exact hv.trans ⟨by simp [World.setCell], fun b hb hr => ⟨heap_setCell_other _ _ _ _ (fun e => by have := h.c.me; rw [e, this] at hr; omega), rfl⟩⟩
theorem pop_mk2 {n M k : Nat} {av : Option Addr} {cv : Nat} {ta : Option Addr} {tc : Nat} (h : RnO w0 w ρ m most s q) (hk : k + n = s.vals.length) (hM : M = n) (htv : q.vv = .slice ta s.vals.length tc) {wa w2 : World} (hb : Below w.heap.size w wa) (hsz : wa.heap.size = w.heap.size + 1)
  (hown : w2.ownsRow w.heap.size 78 3 (.slice av (0 + M) cv) (0 + M) ([] ++ Hp.flatV (s.popped n))) (hg : wa.grownBy w2 (Value.slice (some ⟨w.heap.size, 0, none⟩) 0 0).ownBlock) :
  (w2.cell? ⟨m, 11, none⟩ = some (.slice ta s.vals.length tc) ∧ w2.frozen? ⟨m, 11, none⟩ = false ∧ m < w2.heap.size) ∧ PopPost w0 ρ m most q.cv (s.pop n) (s.popped n) w (.returned (.slice av M cv)) (w2.setCell ⟨m, 11, none⟩ (.slice ta k tc)) := by
 subst hM
 rw [Nat.zero_add, List.nil_append] at hown
 obtain ⟨h2, hv, hr⟩ := pop_mk h (by omega) hb (by omega) hown hg
 have hq : (mCells s most q)[11]? = some (.slice ta s.vals.length tc) := by rw [← htv]; rfl
 have e := pop_end (w := w) h2 (by omega) htv hr hown hv h.lt
 rw [show s.vals.length - M = k by omega] at e
 exact ⟨⟨(cell_of_row w2 m 11 _ _ _ h2.blk).trans hq, frozen_of_row w2 m 11 _ _ h2.blk, h2.lt⟩, e⟩
set_option maxHeartbeats 4000000 in
set_option maxRecDepth 100000 in
theorem pop_any (h : RnO w0 w ρ m most s q) (n : Nat) (hn : n ≤ s.vals.length) (hl : s.vals.length ≤ 10000000) :
  Calls Tryz.prog 70 #[.pointer (some ⟨m, 0, none⟩), .int .i64 n] w (PopPost w0 ρ m most q.cv (s.pop n) (s.popped n) w) := by
 obtain ⟨i0, hi, hz0, hz1, hz2⟩ := info_parts infoVal
 have HI := hid hi
 have HZ0 := hid hz0
 have HZ1 := hid hz1
 have HZ2 := hid hz2
 obtain ⟨k, hk⟩ : ∃ k, k + n = s.vals.length := ⟨s.vals.length - n, by omega⟩
 have HK := hid hk
 have HN : Hid (s.vals.length - k = n) := by unfold Hid; omega
 have hm := h.lt
 have f11 := h.fz 11
 have HH := hid h
 have hgk : IntKind.i64.wrap ((s.vals.length : Int) - n) = (k : Int) := by rw [IntKind.wrap_i64]; omega
 have g1 : (0 : Int) ≤ (k : Int) := by omega
 have g2 : (k : Int) ≤ s.vals.length := by omega
 have HB2 : Hid (Below w.heap.size w (w.alloc (.cells #[] 78))) := (Below.refl _ _).alloc (Nat.le_refl _) _
 have HSZ : Hid ((w.alloc (.cells #[] 78)).heap.size = w.heap.size + 1) := by unfold Hid; simp
 have HZR := hid (zero_row w 78 3)
 have HFL : Hid ((Hp.flatV (s.popped n)).length = n * 3) := by unfold Hid; rw [Hp.flatV_length, popped_length s n hn]
 have HF1 := hid (Hp.flatV_one (s.popped n))
 have hvals := h.c.vals.1
 rcases own_shape hvals with ⟨htv, e2, _⟩ | ⟨g, tc, htv, h0, h1, h2, h3⟩
 ·obtain rfl : n = 0 := by omega
  obtain rfl : k = 0 := by omega
  have hL : s.vals.length = 0 := e2
  have c11 : w.cell? ⟨m, 11, none⟩ = some (.slice none 0 0) := by rw [h.cell 11, ← htv]; rfl
  have HTV : Hid (q.vv = .slice none s.vals.length 0) := by unfold Hid; rw [hL]; exact htv
  clear h hvals htv hi hz0 hz1 hz2 hk e2
  go_enter Tryz.func70, Tryz.ntmps70
  go_wp2_with fail
  go_ret
  have hp : s.popped 0 = [] := by simp [St.popped]
  have E := pop_end (n := 0) (w := w) (lv := .slice (some ⟨w.heap.size, 0, none⟩) 0 0) (HH.out.alloc (.cells #[] 78)) hn HTV.out (fun b e => by cases e; exact HH.out.c.new (Nat.le_refl _)) (by rw [hp]; exact HZR.out) (mv_bel HB2.out ρ) hm
  rw [hp] at E ⊢
  have e2 : (w.alloc (.cells #[] 78)).setCell ⟨m, 11, none⟩ (.slice none 0 0) = (w.setCell ⟨m, 11, none⟩ (.slice none 0 0)).alloc (.cells #[] 78) := World.setCell_alloc_past _ m 11 _ hm
  rw [Nat.sub_zero, hL, e2] at E
  exact E
 ·have c11 : w.cell? ⟨m, 11, none⟩ = some (.slice (some ⟨g, 0, none⟩) s.vals.length tc) := by rw [h.cell 11, ← htv]; rfl
  have HTV := hid htv
  rw [htv] at hvals
  have hcap : s.vals.length ≤ tc := by
   obtain ⟨_, ⟨e, _⟩ | ⟨g', c', cur, e, _, _, e3, _⟩⟩ := hvals
   ·cases e
   ·cases e; exact e3
  have g3 : (k : Int) ≤ tc := by omega
  by_cases hc : tc = k
  ·obtain rfl : n = 0 := by omega
   obtain rfl : k = s.vals.length := by omega
   subst hc
   clear h hvals htv hi hz0 hz1 hz2 h0 h1 h2 h3 hk
   go_enter Tryz.func70, Tryz.ntmps70
   go_wp2_with fail
   go_ret
   have hp : s.popped 0 = [] := by simp [St.popped]
   have E := pop_end (n := 0) (w := w) (lv := .slice (some ⟨w.heap.size, 0, none⟩) 0 0) (HH.out.alloc (.cells #[] 78)) hn HTV.out (fun b e => by cases e; exact HH.out.c.new (Nat.le_refl _)) (by rw [hp]; exact HZR.out) (mv_bel HB2.out ρ) hm
   rw [hp] at E ⊢
   have e2 : (w.alloc (.cells #[] 78)).setCell ⟨m, 11, none⟩ (.slice (some ⟨g, 0, none⟩) s.vals.length s.vals.length) = (w.setCell ⟨m, 11, none⟩ (.slice (some ⟨g, 0, none⟩) s.vals.length s.vals.length)).alloc (.cells #[] 78) := World.setCell_alloc_past _ m 11 _ hm
   rw [Nat.sub_zero, e2] at E
   exact E
  ·have HS : Hid (∀ (j : Nat) (u : Value), (Hp.flatV (s.popped n))[j]? = some u → (w.alloc (.cells #[] 78)).cell? ((⟨g, k * 3, none⟩ : Addr).add j) = some u) := fun j u hu => by
    rw [popped_rev s n hn] at hvals
    have := src_part (hvals.alloc (.cells #[] 78)) j u hu
    rw [List.length_reverse] at this
    rw [← this]
    congr 3
    simp [St.pop]
    omega
   clear h hvals htv hi hz0 hz1 hz2 h0 h1 h2 h3 hk
   go_enter Tryz.func70, Tryz.ntmps70
   go_wp2_with (first | (at_builtin; refine wpList_append_v rfl (.tmp 14) (.tmp 20) 79 rfl w.heap.size 78 i0 _ 3 32 Tryz.underlying79 HI.out HZ0.out HZ1.out HZ2.out rfl (by decide) (.slice (some ⟨w.heap.size, 0, none⟩) 0 0) 0 [] rfl HZR.out (some ⟨g, k * 3, none⟩) (s.vals.length - k) (tc - k) (Hp.flatV (s.popped n)) rfl (by rw [HFL.out, HN.out]) (.inr ⟨_, rfl, HS.out⟩) HF1.out (by simp only [maxLen]; omega) (by omega) (by simp) (w.heap.size + 1) HSZ.out ?_; intro av cv w2 hown hgr hlb; have H2 := hid (pop_mk2 HH.out HK.out HN.out HTV.out HB2.out HSZ.out hown hgr); have c2 := H2.out.1.1; have f2 := H2.out.1.2.1; have hm2 := H2.out.1.2.2; clear hown hgr hlb) | fail)
   go_ret
   exact H2.out.2
end
theorem infoVar : (Tryz.prog.info? 125).map (fun i => (i.zero, i.size, i.bytes)) = some (some (.agg #[.string ⟨#[]⟩, .int .i64 0]), 2, 24) := by kernel_rfl
theorem envF_length : ∀ (l : List ByteArray) (k : Nat), (envF l k).length = l.length
 | [], k => rfl
 | n :: l, k => by rw [envF, List.length_cons, envF_length l, List.length_cons]
theorem envF_snoc : ∀ (l : List ByteArray) (k : Nat) (n : ByteArray), envF (l ++ [n]) k = envF l k ++ [(n, ((k + l.length : Nat) : Int))]
 | [], k, n => rfl
 | a :: l, k, n => by
  rw [List.cons_append, envF, envF_snoc l (k + 1) n, envF, List.cons_append, List.length_cons]
  congr 4
  omega
section
variable {w0 w w' : World} {ρ ρ' : Nat → Nat} {m most : Nat} {s s' : St} {q q' : Wh}
def BindPost (w0 : World) (ρ : Nat → Nat) (m most : Nat) (s' : St) (env : Env) (w : World) (e : Ending) (w' : World) : Prop :=
 ∃ lv, e = .returned lv ∧ ∃ ρ' q', RnO w0 w' ρ' m most s' q' ∧ Mv w ρ w' ρ' ∧ RowR w' ρ' 6 125 2 env.length lv (envC env)
structure Bd (w0 w : World) (ρ : Nat → Nat) (m most : Nat) (s : St) (env : Env) (names : List ByteArray) (vals : List Hp.V) (j : Nat) (wr : World) (out : Value) (ρj : Nat → Nat) (qj : Wh) : Prop where
 o : RnO w0 wr ρj m most (s.bind (vals.take j)) qj
 mv : Mv w ρ wr ρj
 row : wr.ownsRow w.heap.size 125 2 out (env.length + j) (envC (env ++ envF (names.take j) s.cells.length))
 role : ∀ b, out.ownBlock = some b → ρj b = 0
 le : w0.heap.size ≤ w.heap.size
theorem src_env {a : Option Addr} {c : Nat} {env : Env} (h : w.ownsRow 0 125 2 (.slice a env.length c) env.length (envC env)) : (a = none ∧ c = 0 ∧ envC env = []) ∨ ∃ ad, a = some ad ∧ ∀ (j : Nat) (u : Value), (envC env)[j]? = some u → w.cell? (ad.add j) = some u := by
 rcases own_shape h with ⟨e, e2, _⟩ | ⟨g, c', e, _⟩
 ·simp only [Value.slice.injEq] at e
  obtain ⟨rfl, hl, rfl⟩ := e
  have : env = [] := List.length_eq_zero_iff.1 hl
  exact .inl ⟨rfl, rfl, by rw [this]; rfl⟩
 ·cases e
  exact .inr ⟨_, rfl, h.cells rfl⟩
theorem envC_one (l : Env) : ∀ u ∈ envC l, u.oneCell' = true := by
 intro u hu
 simp only [envC, List.mem_flatMap] at hu
 obtain ⟨v, _, hu⟩ := hu
 simp only [List.mem_cons, List.not_mem_nil, or_false] at hu
 rcases hu with rfl | rfl <;> rfl
theorem cells_mk {v : Hp.V} {g cap : Nat} (h : RnO w0 w ρ m most s q) {wa w2 : World} (hb : Below w.heap.size w wa) (hown : w2.ownsRow 0 78 3 (.slice (some ⟨g, 0, none⟩) (s.cells.length + 1) cap) (s.cells.length + 1) (Hp.flatV s.cells ++ [.int .i64 v.kind, .int .i64 v.int, .string v.text]))
  {cv : Value} {H : Nat} (hcv : q.cv = cv) (hg : wa.grownBy w2 cv.ownBlock) (hH : wa.heap.size = H) (hl : cv.ownBlock = some g ∨ g = H) (hlt : g < w2.heap.size) :
  (w2.cell? ⟨m, 1, none⟩ = some cv ∧ w2.frozen? ⟨m, 1, none⟩ = false ∧ m < w2.heap.size) ∧ ∃ ρ' q', RnO w0 (w2.setCell ⟨m, 1, none⟩ (.slice (some ⟨g, 0, none⟩) (s.cells.length + 1) cap)) ρ' m most { s with cells := s.cells ++ [v] } q' ∧ Mv w ρ (w2.setCell ⟨m, 1, none⟩ (.slice (some ⟨g, 0, none⟩) (s.cells.length + 1) cap)) ρ' := by
 subst hcv hH
 have ha := h.bel hb
 have hblk := ha.blkG (w' := w2) (O := q.cv.ownBlock) (fun b e => by rw [h.c.cells.2 b e]; decide) hg
 have hma := mv_bel hb ρ
 obtain ⟨ρ', hc, hv⟩ := ha.c.newCells (w' := w2) (l' := s.cells ++ [v]) (cv' := .slice (some ⟨g, 0, none⟩) (s.cells.length + 1) cap) (s' := { s with cells := s.cells ++ [v] }) hma (by rw [Hp.flatV_append, List.length_append]; exact hown) h.c.cells.2 hg
  (fun b e => by
   obtain rfl : g = b := by cases e; rfl
   refine ⟨hlt, ?_⟩
   rcases hl with e | e
   ·exact .inl (h.c.cells.2 g e)
   ·exact .inr ⟨ha.c.new (by omega), by have := ha.c.below.size; omega, by have := hb.size; omega⟩) rfl
 refine ⟨⟨cell_of_row w2 m 1 _ _ _ hblk, frozen_of_row w2 m 1 _ _ hblk, (Array.getElem?_eq_some_iff.1 hblk).1⟩, ρ', _, RnO.set2 hblk hc 1 _ rfl, hv.trans ⟨by simp [World.setCell], fun b hb hr => ⟨heap_setCell_other _ _ _ _ (fun e => by have := hc.me; rw [e, this] at hr; omega), rfl⟩⟩⟩
structure Bd2 (w0 w : World) (ρ : Nat → Nat) (m most : Nat) (s : St) (env : Env) (names : List ByteArray) (vals : List Hp.V) (j : Nat) (wr : World) (out : Value) : Prop where
 o : ∃ ρj qj cv, RnO w0 wr ρj m most (s.bind (vals.take (j + 1))) qj ∧ Mv w ρ wr ρj ∧ (∀ b, out.ownBlock = some b → ρj b = 0) ∧ qj.cv = cv ∧ wr.cell? ⟨m, 1, none⟩ = some cv ∧ m < wr.heap.size ∧ ∃ a c, cv = .slice a (s.cells.length + (j + 1)) c
 row : wr.ownsRow w.heap.size 125 2 out (env.length + j) (envC (env ++ envF (names.take j) s.cells.length))
 le : w0.heap.size ≤ w.heap.size
theorem bind_len (s : St) (l : List Hp.V) : (s.bind l).cells.length = s.cells.length + l.length := by unfold St.bind; simp
theorem Bd.mid {env : Env} {names : List ByteArray} {vals : List Hp.V} {j : Nat} {wr : World} {out : Value} {ρj : Nat → Nat} {qj : Wh} {v : Hp.V} {g cap : Nat} (H : Bd w0 w ρ m most s env names vals j wr out ρj qj) (hv : vals[j]? = some v) (hn : (s.bind (vals.take j)).cells.length = s.cells.length + j) {wa w2 : World} (hb : Below wr.heap.size wr wa)
  (hown : w2.ownsRow 0 78 3 (.slice (some ⟨g, 0, none⟩) (s.cells.length + j + 1) cap) (s.cells.length + j + 1) (Hp.flatV (s.bind (vals.take j)).cells ++ [.int .i64 v.kind, .int .i64 v.int, .string v.text]))
  {cv : Value} {N : Nat} (hcv : qj.cv = cv) (hg : wa.grownBy w2 cv.ownBlock) (hH : wa.heap.size = N) (hl : cv.ownBlock = some g ∨ g = N) (hlt : g < w2.heap.size) :
  (w2.cell? ⟨m, 1, none⟩ = some cv ∧ w2.frozen? ⟨m, 1, none⟩ = false ∧ m < w2.heap.size) ∧ Bd2 w0 w ρ m most s env names vals j (w2.setCell ⟨m, 1, none⟩ (.slice (some ⟨g, 0, none⟩) (s.cells.length + j + 1) cap)) out := by
 rw [← hn] at hown ⊢
 obtain ⟨k1, ρ', q', k2, k3⟩ := cells_mk H.o hb hown hcv hg hH hl hlt
 have hst : ({ s.bind (vals.take j) with cells := (s.bind (vals.take j)).cells ++ [v] } : St) = s.bind (vals.take (j + 1)) := by
  unfold St.bind
  simp only [List.take_add_one, hv, Option.toList, List.append_assoc]
 rw [hst] at k2
 obtain ⟨a, c, e⟩ := k2.c.cells.slice
 have hlen : (s.bind (vals.take (j + 1))).cells.length = s.cells.length + (j + 1) := by rw [← hst]; simp [hn]; omega
 rw [hlen] at e
 have hro := fun b (e : out.ownBlock = some b) => k3.keep b (H.row.lt b e).2 (.inl (H.role b e))
 refine ⟨k1, ⟨ρ', q', _, k2, H.mv.trans k3, fun b e => (hro b e).2.trans (H.role b e), rfl, k2.cell 1, k2.lt, a, c, e⟩, own_same H.row fun b e => (hro b e).1, H.le⟩
theorem Bd2.next {env : Env} {names : List ByteArray} {vals : List Hp.V} {j : Nat} {wr : World} {out : Value} {n : ByteArray} {g cap : Nat} (H : Bd2 w0 w ρ m most s env names vals j wr out) (hn : names[j]? = some n) {wa w2 : World} (hb : Below wr.heap.size wr wa)
  (hown : w2.ownsRow w.heap.size 125 2 (.slice (some ⟨g, 0, none⟩) (env.length + j + 1) cap) (env.length + j + 1) (envC (env ++ envF (names.take j) s.cells.length) ++ [.string n, .int .i64 ((s.cells.length : Int) + j)]))
  {N : Nat} (hg : wa.grownBy w2 out.ownBlock) (hH : wa.heap.size = N) (hl : out.ownBlock = some g ∨ g = N) : ∃ ρ' q', Bd w0 w ρ m most s env names vals (j + 1) w2 (.slice (some ⟨g, 0, none⟩) (env.length + j + 1) cap) ρ' q' := by
 obtain ⟨⟨ρj, qj, cv, k1, k2, k3, _, _, _, _⟩, ho, hle⟩ := H
 subst hH
 have ka := k1.bel hb
 have hO : ∀ b, out.ownBlock = some b → ρj b = 0 ∧ w0.heap.size ≤ b := fun b e => ⟨k3 b e, Nat.le_trans hle (ho.lt b e).1⟩
 refine ⟨ρj, qj, ka.grow0 hg hO, (k2.bel hb).grow0 hg fun b e => (ho.lt b e).1, ?_, fun b e => ?_, hle⟩
 ·have hnl : j < names.length := (List.getElem?_eq_some_iff.1 hn).1
  rw [List.take_add_one, hn]
  show w2.ownsRow _ _ _ _ _ (envC (env ++ envF (names.take j ++ [n]) s.cells.length))
  rw [envF_snoc, ← List.append_assoc, envC_app]
  rw [List.length_take, Nat.min_eq_left (by omega)]
  rw [show ((s.cells.length + j : Nat) : Int) = (s.cells.length : Int) + j by omega]
  exact hown
 ·obtain rfl : g = b := by cases e; rfl
  rcases hl with e | e
  ·exact k3 g e
  ·exact ka.c.new (by omega)
theorem Bd.done {env : Env} {names : List ByteArray} {vals : List Hp.V} {j : Nat} {wr : World} {ov : Value} {ρj : Nat → Nat} {qj : Wh} (H : Bd w0 w ρ m most s env names vals j wr ov ρj qj) (hlen : vals.length = names.length) (hj : names.length ≤ j) (hj2 : j ≤ names.length) :
  BindPost w0 ρ m most (s.bind vals) (env ++ envF names s.cells.length) w (.returned ov) wr := by
 obtain rfl : j = names.length := by omega
 obtain ⟨k1, k2, k3⟩ := H.o.c.froz (S := fun b => ov.ownBlock = some b) H.mv fun b e => ⟨H.role b e, Nat.le_trans H.le (H.row.lt b e).1, (H.row.lt b e).2, (H.row.lt b e).1⟩
 have e1 : vals.take names.length = vals := List.take_of_length_le (by omega)
 have e2 : names.take names.length = names := List.take_length
 have hr := H.row
 rw [e2] at hr
 rw [e1] at k1
 have ho := H.o.blk
 rw [e1] at ho
 refine ⟨ov, rfl, _, qj, ⟨k1, ho⟩, k2, ⟨?_, fun b e => more_yes e⟩⟩
 rw [List.length_append, envF_length]
 obtain ⟨h1, h2⟩ := hr
 refine ⟨h1, ?_⟩
 rcases h2 with h2 | ⟨g, cap, cur, a1, a2, a3, a4⟩
 ·exact .inl h2
 ·exact .inr ⟨g, cap, cur, a1, Nat.zero_le _, a3, a4⟩
end
section
variable {w0 w w' : World} {ρ ρ' : Nat → Nat} {m most : Nat} {s s' : St} {q q' : Wh}
theorem strs_length (l : List ByteArray) : (strs l).length = l.length := by simp [strs]
theorem strs_at {l : List ByteArray} {j : Nat} {n : ByteArray} (h : l[j]? = some n) : (strs l)[j]? = some (.string n) := by simp [strs, h]
theorem names_at {names : List ByteArray} {a : Option Addr} {k c : Nat} (h : Sl w (.slice a k c) (strs names)) {j : Nat} {n : ByteArray} (hn : names[j]? = some n) : k = names.length ∧ ∃ b off, a = some ⟨b, off, none⟩ ∧ b < w.heap.size ∧ w.cell? ⟨b, off + j, none⟩ = some (.string n) := by
 have hj : j < names.length := (List.getElem?_eq_some_iff.1 hn).1
 obtain ⟨a', c', e⟩ := h.len
 cases e
 obtain ⟨b, off, rfl, hb, hc⟩ := h.at (by intro e; have := congrArg List.length e; rw [strs_length] at this; simp at this; rw [this] at hj; simp at hj)
 refine ⟨strs_length _, b, off, rfl, hb, ?_⟩
 have := hc j (by rw [strs_length]; exact hj)
 rw [this, List.getD_eq_getElem?_getD, strs_at hn]
 rfl
theorem bd_first {env : Env} {names : List ByteArray} {vals : List Hp.V} (h : RnO w0 w ρ m most s q) {av : Option Addr} {cv : Nat} {w2 : World} (hown : w2.ownsRow w.heap.size 125 2 (.slice av (0 + env.length) cv) (0 + env.length) ([] ++ envC env))
  (hg : (w.alloc (.cells #[] 125)).grownBy w2 (Value.slice (some ⟨w.heap.size, 0, none⟩) 0 0).ownBlock) : Bd w0 w ρ m most s env names vals 0 w2 (.slice av env.length cv) ρ q := by
 rw [Nat.zero_add, List.nil_append] at hown
 have hb : Below w.heap.size w (w.alloc (.cells #[] 125)) := (Below.refl _ _).alloc (Nat.le_refl _) _
 have hO : ∀ b, (Value.slice (some ⟨w.heap.size, 0, none⟩) 0 0).ownBlock = some b → ρ b = 0 ∧ w0.heap.size ≤ b := fun b e => by
  obtain rfl : w.heap.size = b := by cases e; rfl
  exact ⟨h.c.new (Nat.le_refl _), h.c.below.size⟩
 refine ⟨?_, (mv_bel hb ρ).grow0 hg fun b e => by cases e; exact Nat.le_refl _, ?_, fun b e => h.c.new (hown.lt b e).1, h.c.below.size⟩
 ·have hs : s.bind (vals.take 0) = s := by unfold St.bind; simp
  rw [hs]
  exact (h.bel hb).grow0 hg hO
 ·simp only [List.take_zero, envF, List.append_nil, Nat.add_zero]
  exact hown
set_option maxHeartbeats 8000000 in
set_option maxRecDepth 100000 in
theorem bind_any (h : RnO w0 w ρ m most s q) (env : Env) (names : List ByteArray) (vals : List Hp.V) (ev nv vv : Value) (he : RowR w ρ 6 125 2 env.length ev (envC env)) (hn : Sl w0 nv (strs names)) (hv : VR w ρ vv vals) (hlen : vals.length = names.length)
  (hel : env.length ≤ 10000000) (hnl : names.length ≤ 10000000) (hcl : s.cells.length ≤ 10000000) :
  Calls Tryz.prog 74 #[.pointer (some ⟨m, 0, none⟩), ev, nv, vv] w (BindPost w0 ρ m most (s.bind vals) (env ++ envF names s.cells.length) w) := by
 obtain ⟨i0, hi, hz0, hz1, hz2⟩ := info_parts infoVar
 obtain ⟨i1, hj, hy0, hy1, hy2⟩ := info_parts infoVal
 have HI := hid hi
 have HZ0 := hid hz0
 have HZ1 := hid hz1
 have HZ2 := hid hz2
 have HJ := hid hj
 have HY0 := hid hy0
 have HY1 := hid hy1
 have HY2 := hid hy2
 obtain ⟨ea, ec, rfl⟩ := he.slice
 obtain ⟨an, cn, rfl⟩ := hn.len
 obtain ⟨av, cv, rfl⟩ := hv.sl.len
 rw [strs_length] at hn ⊢
 rw [hlen] at hv ⊢
 have HH := hid h
 have HN := hid hn
 have HV := hid hv
 have HSE := hid (src_env (he.1.alloc (.cells #[] 125)))
 have HLN := hid hlen
 have HZR := hid (zero_row w 125 2)
 have HSZ : Hid ((w.alloc (.cells #[] 125)).heap.size = w.heap.size + 1) := by unfold Hid; simp
 have HEL : Hid ((envC env).length = env.length * 2) := envC_length env
 have HE1 := hid (envC_one env)
 have hm := h.lt
 clear h hn hv he hi hz0 hz1 hz2 hj hy0 hy1 hy2 hlen
 go_enter Tryz.func74, Tryz.ntmps74
 go_wp2_with (first | (at_builtin; refine wpList_append_v rfl (.tmp 11) (.tmp 12) 85 rfl w.heap.size 125 i0 _ 2 24 Tryz.underlying85 HI.out HZ0.out HZ1.out HZ2.out rfl (by decide) (.slice (some ⟨w.heap.size, 0, none⟩) 0 0) 0 [] rfl HZR.out ea env.length ec (envC env) rfl HEL.out HSE.out HE1.out (by simp only [maxLen]; omega) (by omega) (by simp) (w.heap.size + 1) HSZ.out ?_; intro oa oc w2 hown hgr hlb; have HB := hid (bd_first (names := names) (vals := vals) HH.out hown hgr); clear hown hgr hlb) | fail)
 go_loopg [9, 10] names.length (fun g o9 i wr => ∃ j : Nat, j ≤ names.length ∧ g = names.length - j ∧ i = .int .i64 j ∧ ∃ ρj qj ov, ov = o9 ∧ Bd w0 w ρ m most s env names vals j wr ov ρj qj)
 case atStart => exact ⟨0, Nat.zero_le _, rfl, rfl, ρ, q, _, rfl, HB.out⟩
 case round =>
  obtain ⟨j, hjl, rfl, rfl, ρj, qj, ov, rfl, hB⟩ := hrel
  clear HB
  by_cases hlt : j < names.length
  ·obtain ⟨n, hnj⟩ : ∃ n, names[j]? = some n := ⟨_, List.getElem?_eq_getElem hlt⟩
   obtain ⟨v, hvj⟩ : ∃ v, vals[j]? = some v := ⟨_, List.getElem?_eq_getElem (by rw [HLN.out]; exact hlt)⟩
   obtain ⟨ta, tc, htv⟩ := hB.o.c.cells.slice
   have hCL : (s.bind (vals.take j)).cells.length = s.cells.length + j := by rw [bind_len, List.length_take, HLN.out, Nat.min_eq_left (by omega)]
   rw [hCL] at htv
   have c1 : wr.cell? ⟨m, 1, none⟩ = some (.slice ta (s.cells.length + j) tc) := by rw [hB.o.cell 1, ← htv]; rfl
   have f1 := hB.o.fz 1
   have hmr := hB.o.lt
   have HVR := HV.out.mv hB.mv
   obtain ⟨vb, voff, rfl, hvb, hvc⟩ := HVR.sl.at (by intro e; rw [e] at hvj; simp at hvj)
   obtain ⟨v0, v1, v2⟩ := hvc j v hvj
   obtain ⟨oa, oc, rfl⟩ : ∃ oa oc, ov = .slice oa (env.length + j) oc := by
    rcases own_shape hB.row with ⟨e, e2, _⟩ | ⟨g, c, e, _⟩
    ·exact ⟨none, 0, by rw [e, e2]⟩
    ·exact ⟨_, c, e⟩
   obtain ⟨_, nb, noff, rfl, hnb, hn0⟩ := names_at HN.out hnj
   have HTV := hid htv
   have HCL := hid hCL
   have HBD := hid hB
   have HVJ := hid hvj
   have HNJ := hid hnj
   have HN0 := hid hn0
   have HR := hid (by have := hB.o.c.cells.1; rw [htv, hCL] at this; exact this : wr.ownsRow 0 78 3 (.slice ta (s.cells.length + j) tc) (s.cells.length + j) (Hp.flatV (s.bind (vals.take j)).cells))
   have HNC : Hid (∀ (k : Nat) (u : Value), [Value.int .i64 v.kind, .int .i64 v.int, .string v.text][k]? = some u → ((wr.alloc (.cells #[.int .i64 v.kind, .int .i64 v.int, .string v.text] 78)).drew).cell? ((⟨wr.heap.size, 0, none⟩ : Addr).add k) = some u) := World.news_of_block (cs := #[.int .i64 v.kind, .int .i64 v.int, .string v.text]) (heap_alloc_new _ _)
   have HB5 : Hid (Below wr.heap.size wr ((wr.alloc (.cells #[.int .i64 v.kind, .int .i64 v.int, .string v.text] 78)).drew)) := ((Below.refl _ _).alloc (Nat.le_refl _) _).drew
   have HSZ5 : Hid (((wr.alloc (.cells #[.int .i64 v.kind, .int .i64 v.int, .string v.text] 78)).drew).heap.size = wr.heap.size + 1) := by show (wr.alloc _).heap.size = _; simp
   have g1 : (0 : Int) ≤ j := by omega
   have g2 : (j : Int) < names.length := by omega
   have gw : IntKind.i64.wrap ((j : Int) + 1) = ((j + 1 : Nat) : Int) := by rw [IntKind.wrap_i64]; omega
   clear hB htv hCL HVR hvc hvj hnj hn0
   go_wp2_with fail
   go_region_law (first
    | (refine step_append_lies _ (by rfl) (.tmp 24) (.tmp 29) 79 (by rfl) 0 78 i1 _ 3 32 Tryz.underlying79 HJ.out HY0.out HY1.out HY2.out rfl (by decide) (.slice ta (s.cells.length + j) tc) (s.cells.length + j) (Hp.flatV (s.bind (vals.take j)).cells) (by rfl) (by first | exact own_drewN (HR.out.alloc _) 1 | exact (own_drewN HR.out 1).alloc _) ⟨wr.heap.size, 0, none⟩ 1 1 [.int .i64 v.kind, .int .i64 v.int, .string v.text] (by rfl) (by rfl) HNC.out (by simp [Value.oneCell']) (by decide) (by simp only [maxLen]; omega) (by omega) (Nat.zero_le _) (wr.heap.size + 1) (by simp) ?_; intro g cap w2 hown hgr hlb hlt2; have H5 := hid (Bd.mid HBD.out HVJ.out HCL.out HB5.out hown HTV.out hgr HSZ5.out hlb hlt2); have c5 := H5.out.1.1; have f5 := H5.out.1.2.1; have hm5 := H5.out.1.2.2; clear hown hgr hlb hlt2)
    | fail)
   all_goals
    have H6 := hid H5.out.2
    generalize hw3 : w2.setCell ⟨m, 1, none⟩ (.slice (some ⟨g, 0, none⟩) (s.cells.length + j + 1) cap) = w3 at H6 ⊢
    obtain ⟨ρ3, q3, cv3, k1, k2, k3, k4, k5, k6, ta3, tc3, rfl⟩ := H6.out.o
    have n6 : w3.cell? ⟨nb, noff + j, none⟩ = some (.string n) := (World.cell?_of_block (a := ⟨nb, noff + j, none⟩) (k1.c.below.block nb hnb)).trans HN0.out
    have hn3 : nb < w3.heap.size := Nat.lt_of_lt_of_le hnb k1.c.below.size
    have HR6 := hid H6.out.row
    have HNC6 : Hid (∀ (k : Nat) (u : Value), [Value.string n, .int .i64 ((s.cells.length : Int) + j)][k]? = some u → ((w3.alloc (.cells #[.string n, .int .i64 ((s.cells.length : Int) + j)] 125)).drew).cell? ((⟨w3.heap.size, 0, none⟩ : Addr).add k) = some u) := World.news_of_block (cs := #[.string n, .int .i64 ((s.cells.length : Int) + j)]) (heap_alloc_new _ _)
    have HB6 : Hid (Below w3.heap.size w3 ((w3.alloc (.cells #[.string n, .int .i64 ((s.cells.length : Int) + j)] 125)).drew)) := ((Below.refl _ _).alloc (Nat.le_refl _) _).drew
    have HSZ6 : Hid (((w3.alloc (.cells #[.string n, .int .i64 ((s.cells.length : Int) + j)] 125)).drew).heap.size = w3.heap.size + 1) := by show (w3.alloc _).heap.size = _; simp
    have HLE : Hid (w.heap.size ≤ w3.heap.size) := k2.size
    have gq : IntKind.i64.wrap ((s.cells.length : Int) + ((j : Int) + 1) - 1) = ((s.cells.length : Int) + j) := by rw [IntKind.wrap_i64]; omega
    have HNJ' := hid HNJ.out
    clear H5 c5 f5 hm5 hw3 k1 k2 k3 k4 v0 v1 v2 c1 f1 HNC HB5 HSZ5 HR
    go_wp2_with fail
    go_region_law (first
     | (refine step_append_lies _ (by rfl) (.tmp 33) (.tmp 45) 85 (by rfl) w.heap.size 125 i0 _ 2 24 Tryz.underlying85 HI.out HZ0.out HZ1.out HZ2.out rfl (by decide) (.slice oa (env.length + j) oc) (env.length + j) (envC (env ++ envF (names.take j) s.cells.length)) (by rfl) (by first | exact own_drewN (HR6.out.alloc _) 1 | exact (own_drewN HR6.out 1).alloc _) ⟨w3.heap.size, 0, none⟩ 1 1 [.string n, .int .i64 ((s.cells.length : Int) + j)] (by rfl) (by rfl) HNC6.out (by simp [Value.oneCell']) (by decide) (by simp only [maxLen]; omega) (by omega) (by have := HLE.out; simp; omega) (w3.heap.size + 1) (by simp) ?_; intro g6 cap6 w6 hown hgr hlb hlt6; have H7 := hid (Bd2.next H6.out HNJ.out HB6.out hown hgr HSZ6.out hlb); clear hown hgr hlb hlt6)
     | fail)
    all_goals
     go_wp2_with fail
     go_roundg (names.length - (j + 1))
     case measure => omega
     case rel =>
      obtain ⟨ρ8, q8, H8⟩ := H7.out
      exact ⟨j + 1, by omega, rfl, by go_num, ρ8, q8, _, rfl, H8⟩
  ·have HB := hid (hB.done HLN.out (by omega) hjl)
   have hge : (names.length : Int) ≤ j := by omega
   clear hB
   go_wp2_with fail
   go_ret
   exact HB.out
end
end Rn
namespace Ew
open Rn
structure Boxed (w w1 : World) (cs : Array Value) (t : TypeId) : Prop where
 eq : w1 = w.alloc (.cells cs t)
 below : Below w.heap.size w w1
 size : w1.heap.size = w.heap.size + 1
 blk : w1.heap[w.heap.size]? = some (.cells cs t (0, 0))
theorem boxed (w : World) (cs : Array Value) (t : TypeId) : ∃ w1, Boxed w w1 cs t := ⟨_, rfl, (Below.refl _ _).alloc (Nat.le_refl _) _, by simp, heap_alloc_new w _⟩
theorem boxedE (w : World) (e : Ex) (na : Option Addr) (nc : Nat) (da : Option Addr) (dn dc : Nat) (ka : Option Addr) (kc : Nat) : ∃ w1, Boxed w w1 #[.int .i64 e.kind, .string e.name, .slice na e.names.length nc, .int .i64 e.const.kind, .int .i64 e.const.int, .string e.const.text, .slice da dn dc, .slice ka e.kids.length kc] 28 := boxed _ _ _
structure Op (w : World) (e : Ex) (na : Option Addr) (nc : Nat) (da : Option Addr) (dn dc : Nat) (ka : Option Addr) (kc : Nat) : Prop where
 ex : ExAt w (exV e.kind e.name (.slice na e.names.length nc) e.const (.slice da dn dc) (.slice ka e.kids.length kc)) e
 names : Sl w (.slice na e.names.length nc) (strs e.names)
 kids : KidsAt w (.slice ka e.kids.length kc) e.kids
 room : e.names.length ≤ nc
 const : DtAt w (fun _ => True) (.agg #[.int .i64 e.const.kind, .int .i64 e.const.int, .string e.const.text, .slice da dn dc]) e.const
theorem Op.of {w : World} {e : Ex} {nv dl kv : Value} (h : ExAt w (exV e.kind e.name nv e.const dl kv) e) : ∃ na nc da dn dc ka kc, nv = .slice na e.names.length nc ∧ dl = .slice da dn dc ∧ kv = .slice ka e.kids.length kc ∧ Op w e na nc da dn dc ka kc := by
 obtain ⟨⟨na, nn, nc, rfl⟩, ⟨da, dn, dc, rfl⟩, ⟨ka, kn, kc, rfl⟩⟩ := ExAt.slices h
 obtain ⟨hk, hn, hd⟩ := ExAt.kids h
 obtain ⟨_, _, hkn, _, _⟩ := id hk
 obtain rfl : kn = e.kids.length := by cases hkn; rfl
 have hnn : nn = e.names.length := by
  obtain ⟨_, _, e2⟩ := hn.len
  cases e2
  exact strs_length _
 subst hnn
 have hr : e.names.length ≤ nc := by
  obtain ⟨_, _, _, e1, h1⟩ := ExAt.room h
  cases e1
  exact h1
 exact ⟨na, nc, da, dn, dc, ka, kc, rfl, rfl, rfl, h, hn, hk, hr, hd⟩
theorem Op.bel {w w' : World} {e : Ex} {na : Option Addr} {nc : Nat} {da : Option Addr} {dn dc : Nat} {ka : Option Addr} {kc : Nat} (h : Op w e na nc da dn dc ka kc) (hb : Below w.heap.size w w') : Op w' e na nc da dn dc ka kc := by
 have hx := h.ex.bel hb
 obtain ⟨hk, hn, hd⟩ := ExAt.kids hx
 exact ⟨hx, hn, hk, h.room, hd⟩
structure Kid (w : World) (ka : Option Addr) (n j : Nat) (x : Ex) (kb koff : Nat) (na : Option Addr) (nc : Nat) (da : Option Addr) (dn dc : Nat) (ya : Option Addr) (yc : Nat) : Prop where
 at_ : ka = some ⟨kb, koff, none⟩
 lt : kb < w.heap.size
 i : (0 : Int) ≤ (j : Int) ∧ (j : Int) < (n : Int)
 op : Op w x na nc da dn dc ya yc
 c : w.cell? ⟨kb, koff + j * 8, none⟩ = some (.int .i64 x.kind) ∧ w.cell? ⟨kb, koff + j * 8 + 1, none⟩ = some (.string x.name) ∧ w.cell? ⟨kb, koff + j * 8 + 2, none⟩ = some (.slice na x.names.length nc) ∧ w.cell? ⟨kb, koff + j * 8 + 3, none⟩ = some (.int .i64 x.const.kind) ∧ w.cell? ⟨kb, koff + j * 8 + 4, none⟩ = some (.int .i64 x.const.int) ∧ w.cell? ⟨kb, koff + j * 8 + 5, none⟩ = some (.string x.const.text) ∧ w.cell? ⟨kb, koff + j * 8 + 6, none⟩ = some (.slice da dn dc) ∧ w.cell? ⟨kb, koff + j * 8 + 7, none⟩ = some (.slice ya x.kids.length yc)
theorem Op.kid {w : World} {e : Ex} {na : Option Addr} {nc : Nat} {da : Option Addr} {dn dc : Nat} {ka : Option Addr} {kc : Nat} (h : Op w e na nc da dn dc ka kc) {j : Nat} {x : Ex} (hx : e.kids[j]? = some x) :
  ∃ kb koff na nc da dn dc ya yc, Kid w ka e.kids.length j x kb koff na nc da dn dc ya yc := by
 obtain ⟨_, kb, koff, rfl, hkb, nv, dl, kv, hc⟩ := h.kids.at hx
 obtain ⟨na, nc, da, dn, dc, ya, yc, rfl, rfl, rfl, hop⟩ := Op.of hc.ex
 have hj := (List.getElem?_eq_some_iff.1 hx).1
 exact ⟨kb, koff, na, nc, da, dn, dc, ya, yc, rfl, hkb, ⟨by omega, by omega⟩, hop, hc.c0, hc.c1, hc.c2, hc.c3, hc.c4, hc.c5, hc.c6, hc.c7⟩
theorem text_at {w : World} {na : Option Addr} {n nc : Nat} {l : List ByteArray} (h : Sl w (.slice na n nc) (strs l)) {j : Nat} {s : ByteArray} (hs : l[j]? = some s) : ∃ b off, na = some ⟨b, off, none⟩ ∧ b < w.heap.size ∧ w.cell? ⟨b, off + j, none⟩ = some (.string s) :=
 (names_at h hs).2
theorem sl_take {w : World} {na : Option Addr} {n nc : Nat} {l : List ByteArray} (h : Sl w (.slice na n nc) (strs l)) (j : Nat) (hj : j < l.length) : Sl w (.slice na j nc) (strs (l.take j)) := by
 obtain ⟨a, c, e, h⟩ := h
 cases e
 have hlen : (strs (l.take j)).length = j := by rw [strs_length, List.length_take]; omega
 rcases h with ⟨_, _, h3⟩ | ⟨ad, h1, h2⟩
 ·exfalso
  have : (strs l).length = 0 := by rw [h3]; rfl
  rw [strs_length] at this
  omega
 ·refine ⟨na, nc, by rw [hlen], .inr ⟨ad, h1, fun i u hu => h2 i u ?_⟩⟩
  unfold strs at hu ⊢
  rw [List.map_take, List.getElem?_take] at hu
  split at hu
  ·exact hu
  ·cases hu
theorem sl_bel {w w' : World} {v : Value} {l : List Value} (h : Sl w v l) (hb : Below w.heap.size w w') : Sl w' v l := h.below hb (Nat.le_refl _)
structure Row (w : World) (b : Nat) (c0 c1 c2 c3 c4 c5 c6 c7 : Value) : Prop where
 c0 : w.cell? ⟨b, 0, none⟩ = some c0
 c1 : w.cell? ⟨b, 1, none⟩ = some c1
 c2 : w.cell? ⟨b, 2, none⟩ = some c2
 c3 : w.cell? ⟨b, 3, none⟩ = some c3
 c4 : w.cell? ⟨b, 4, none⟩ = some c4
 c5 : w.cell? ⟨b, 5, none⟩ = some c5
 c6 : w.cell? ⟨b, 6, none⟩ = some c6
 c7 : w.cell? ⟨b, 7, none⟩ = some c7
 lt : b < w.heap.size
theorem Row.of {w : World} {b : Nat} {c0 c1 c2 c3 c4 c5 c6 c7 : Value} {t : TypeId} {p : Nat × Nat} (h : w.heap[b]? = some (.cells #[c0, c1, c2, c3, c4, c5, c6, c7] t p)) : Row w b c0 c1 c2 c3 c4 c5 c6 c7 :=
 ⟨cell_of_row w b 0 _ _ _ h, cell_of_row w b 1 _ _ _ h, cell_of_row w b 2 _ _ _ h, cell_of_row w b 3 _ _ _ h, cell_of_row w b 4 _ _ _ h, cell_of_row w b 5 _ _ _ h, cell_of_row w b 6 _ _ _ h, cell_of_row w b 7 _ _ _ h, (Array.getElem?_eq_some_iff.1 h).1⟩
theorem Row.bel {w w' : World} {b : Nat} {c0 c1 c2 c3 c4 c5 c6 c7 : Value} (h : Row w b c0 c1 c2 c3 c4 c5 c6 c7) (hb : Below w.heap.size w w') : Row w' b c0 c1 c2 c3 c4 c5 c6 c7 :=
 have e : ∀ i, w'.cell? ⟨b, i, none⟩ = w.cell? ⟨b, i, none⟩ := fun i => hb.cell (p := ⟨b, i, none⟩) h.lt
 ⟨(e _).trans h.c0, (e _).trans h.c1, (e _).trans h.c2, (e _).trans h.c3, (e _).trans h.c4, (e _).trans h.c5, (e _).trans h.c6, (e _).trans h.c7, Nat.lt_of_lt_of_le h.lt hb.size⟩
abbrev Says (v : Value) (w : World) : Ending → World → Prop := fun e w' => e = .returned v ∧ Below w.heap.size w w'
set_option maxHeartbeats 8000000 in
theorem rbinds_any (i : Nat) (hi : i ≤ 100000) (e : Ex) : ∀ {w : World} {na : Option Addr} {nc : Nat} {da : Option Addr} {dn dc : Nat} {ka : Option Addr} {kc : Nat}, e.kids.length ≤ 100000 → Op w e na nc da dn dc ka kc →
  Calls Tryz.prog 52 #[.agg #[.int .i64 e.kind, .string e.name, .slice na e.names.length nc, .int .i64 e.const.kind, .int .i64 e.const.int, .string e.const.text, .slice da dn dc, .slice ka e.kids.length kc], .int .i64 i] w (Says (.bool (Ex.binds e.kind e.kids.length i)) w) := by
 intro w na nc da dn dc ka kc hsz ho
 obtain ⟨w1, B1⟩ := boxedE w e na nc da dn dc ka kc
 have hR := Row.of B1.blk
 have HO := hid (ho.bel B1.below)
 have HB := hid B1
 have HR := hid hR
 have hl := hsz
 obtain ⟨x0, x1, x2, x3, x4, x5, x6, x7, hbl⟩ := hR
 clear B1 ho hsz
 have gw : IntKind.i64.wrap ((e.kids.length : Int) - 1) = (e.kids.length : Int) - 1 := by rw [IntKind.wrap_i64]; omega
 by_cases h5 : e.kind = 5
 ·have k5 : (e.kind == 5) = true := by rw [h5]; rfl
  have HH : Hid (Ex.binds e.kind e.kids.length i = true) := by
   unfold Hid Ex.binds
   simp [h5]
  clear h5
  go_enter Tryz.func52, Tryz.ntmps52
  go_upto_region 1 with fail
  rw [← HB.out.eq]
  go_wp2_with fail
  go_ret
  exact ⟨by rw [HH.out]; rfl, HB.out.below⟩
 have k5 : (e.kind == 5) = false := beq_eq_false_iff_ne.2 h5
 by_cases h9 : e.kind = 9
 ·have k9 : (e.kind == 9) = true := by rw [h9]; rfl
  have HH : Hid (Ex.binds e.kind e.kids.length i = true) := by
   unfold Hid Ex.binds
   simp [h5, h9]
  clear h5
  clear h9
  go_enter Tryz.func52, Tryz.ntmps52
  go_upto_region 1 with fail
  rw [← HB.out.eq]
  go_wp2_with fail
  go_ret
  exact ⟨by rw [HH.out]; rfl, HB.out.below⟩
 have k9 : (e.kind == 9) = false := beq_eq_false_iff_ne.2 h9
 by_cases h10 : e.kind = 10
 ·have k10 : (e.kind == 10) = true := by rw [h10]; rfl
  have HH : Hid (Ex.binds e.kind e.kids.length i = true) := by
   unfold Hid Ex.binds
   simp [h5, h9, h10]
  clear h5
  clear h9
  clear h10
  go_enter Tryz.func52, Tryz.ntmps52
  go_upto_region 1 with fail
  rw [← HB.out.eq]
  go_wp2_with fail
  go_ret
  exact ⟨by rw [HH.out]; rfl, HB.out.below⟩
 have k10 : (e.kind == 10) = false := beq_eq_false_iff_ne.2 h10
 by_cases h8 : e.kind = 8
 ·have k8 : (e.kind == 8) = true := by rw [h8]; rfl
  by_cases hn : i + 1 = e.kids.length
  ·have kn : ((i : Int) == (e.kids.length : Int) - 1) = true := by rw [beq_iff_eq]; omega
   have HH : Hid (Ex.binds e.kind e.kids.length i = true) := by
    unfold Hid Ex.binds
    simp [h5, h9, h10, h8, hn]
   clear h5
   clear h9
   clear h10
   clear h8
   clear hn
   go_enter Tryz.func52, Tryz.ntmps52
   go_upto_region 1 with fail
   rw [← HB.out.eq]
   go_wp2_with fail
   go_ret
   exact ⟨by rw [HH.out]; rfl, HB.out.below⟩
  ·have kn : ((i : Int) == (e.kids.length : Int) - 1) = false := by rw [beq_eq_false_iff_ne]; omega
   have HH : Hid (Ex.binds e.kind e.kids.length i = false) := by
    unfold Hid Ex.binds
    simp [h5, h9, h10, h8, hn]
   clear h5
   clear h9
   clear h10
   clear h8
   clear hn
   go_enter Tryz.func52, Tryz.ntmps52
   go_upto_region 1 with fail
   rw [← HB.out.eq]
   go_wp2_with fail
   go_ret
   exact ⟨by rw [HH.out]; rfl, HB.out.below⟩
 ·have k8 : (e.kind == 8) = false := beq_eq_false_iff_ne.2 h8
  have HH : Hid (Ex.binds e.kind e.kids.length i = false) := by
   unfold Hid Ex.binds
   simp [h5, h9, h10, h8]
  clear h5
  clear h9
  clear h10
  clear h8
  go_enter Tryz.func52, Tryz.ntmps52
  go_upto_region 1 with fail
  rw [← HB.out.eq]
  go_wp2_with fail
  go_ret
  exact ⟨by rw [HH.out]; rfl, HB.out.below⟩
set_option maxHeartbeats 8000000 in
theorem pbinds_any (i : Nat) (hi : i ≤ 100000) (e : Ex) : ∀ {w : World} {na : Option Addr} {nc : Nat} {da : Option Addr} {dn dc : Nat} {ka : Option Addr} {kc : Nat}, e.kids.length ≤ 100000 → Op w e na nc da dn dc ka kc →
  Calls Tryz.prog 59 #[.agg #[.int .i64 e.kind, .string e.name, .slice na e.names.length nc, .int .i64 e.const.kind, .int .i64 e.const.int, .string e.const.text, .slice da dn dc, .slice ka e.kids.length kc], .int .i64 i] w (Says (.bool (Ex.binds e.kind e.kids.length i)) w) := by
 intro w na nc da dn dc ka kc hsz ho
 obtain ⟨w1, B1⟩ := boxedE w e na nc da dn dc ka kc
 have hR := Row.of B1.blk
 have HO := hid (ho.bel B1.below)
 have HB := hid B1
 have HR := hid hR
 have hl := hsz
 obtain ⟨x0, x1, x2, x3, x4, x5, x6, x7, hbl⟩ := hR
 clear B1 ho hsz
 have gw : IntKind.i64.wrap ((e.kids.length : Int) - 1) = (e.kids.length : Int) - 1 := by rw [IntKind.wrap_i64]; omega
 by_cases h5 : e.kind = 5
 ·have k5 : (e.kind == 5) = true := by rw [h5]; rfl
  have HH : Hid (Ex.binds e.kind e.kids.length i = true) := by
   unfold Hid Ex.binds
   simp [h5]
  clear h5
  go_enter Tryz.func59, Tryz.ntmps59
  go_upto_region 1 with fail
  rw [← HB.out.eq]
  go_wp2_with fail
  go_ret
  exact ⟨by rw [HH.out]; rfl, HB.out.below⟩
 have k5 : (e.kind == 5) = false := beq_eq_false_iff_ne.2 h5
 by_cases h9 : e.kind = 9
 ·have k9 : (e.kind == 9) = true := by rw [h9]; rfl
  have HH : Hid (Ex.binds e.kind e.kids.length i = true) := by
   unfold Hid Ex.binds
   simp [h5, h9]
  clear h5
  clear h9
  go_enter Tryz.func59, Tryz.ntmps59
  go_upto_region 1 with fail
  rw [← HB.out.eq]
  go_wp2_with fail
  go_ret
  exact ⟨by rw [HH.out]; rfl, HB.out.below⟩
 have k9 : (e.kind == 9) = false := beq_eq_false_iff_ne.2 h9
 by_cases h10 : e.kind = 10
 ·have k10 : (e.kind == 10) = true := by rw [h10]; rfl
  have HH : Hid (Ex.binds e.kind e.kids.length i = true) := by
   unfold Hid Ex.binds
   simp [h5, h9, h10]
  clear h5
  clear h9
  clear h10
  go_enter Tryz.func59, Tryz.ntmps59
  go_upto_region 1 with fail
  rw [← HB.out.eq]
  go_wp2_with fail
  go_ret
  exact ⟨by rw [HH.out]; rfl, HB.out.below⟩
 have k10 : (e.kind == 10) = false := beq_eq_false_iff_ne.2 h10
 by_cases h8 : e.kind = 8
 ·have k8 : (e.kind == 8) = true := by rw [h8]; rfl
  by_cases hn : i + 1 = e.kids.length
  ·have kn : ((i : Int) == (e.kids.length : Int) - 1) = true := by rw [beq_iff_eq]; omega
   have HH : Hid (Ex.binds e.kind e.kids.length i = true) := by
    unfold Hid Ex.binds
    simp [h5, h9, h10, h8, hn]
   clear h5
   clear h9
   clear h10
   clear h8
   clear hn
   go_enter Tryz.func59, Tryz.ntmps59
   go_upto_region 1 with fail
   rw [← HB.out.eq]
   go_wp2_with fail
   go_ret
   exact ⟨by rw [HH.out]; rfl, HB.out.below⟩
  ·have kn : ((i : Int) == (e.kids.length : Int) - 1) = false := by rw [beq_eq_false_iff_ne]; omega
   have HH : Hid (Ex.binds e.kind e.kids.length i = false) := by
    unfold Hid Ex.binds
    simp [h5, h9, h10, h8, hn]
   clear h5
   clear h9
   clear h10
   clear h8
   clear hn
   go_enter Tryz.func59, Tryz.ntmps59
   go_upto_region 1 with fail
   rw [← HB.out.eq]
   go_wp2_with fail
   go_ret
   exact ⟨by rw [HH.out]; rfl, HB.out.below⟩
 ·have k8 : (e.kind == 8) = false := beq_eq_false_iff_ne.2 h8
  have HH : Hid (Ex.binds e.kind e.kids.length i = false) := by
   unfold Hid Ex.binds
   simp [h5, h9, h10, h8]
  clear h5
  clear h9
  clear h10
  clear h8
  go_enter Tryz.func59, Tryz.ntmps59
  go_upto_region 1 with fail
  rw [← HB.out.eq]
  go_wp2_with fail
  go_ret
  exact ⟨by rw [HH.out]; rfl, HB.out.below⟩
theorem toList_inj' {a b : ByteArray} (h : a.toList = b.toList) : a = b := by
 rw [Lib.toList_data, Lib.toList_data] at h
 obtain ⟨a⟩ := a
 obtain ⟨b⟩ := b
 congr 1
 exact Array.toList_inj.1 h
set_option maxHeartbeats 8000000 in
theorem rin_at (l : List ByteArray) (s : ByteArray) {w : World} {na : Option Addr} {nc : Nat} (hn : Sl w (.slice na l.length nc) (strs l)) (hl : l.length ≤ 9223372036854775807) :
  Calls Tryz.prog 66 #[.slice na l.length nc, .string s] w fun e w' => e = .returned (.bool (Ex.inN l s)) ∧ w = w' := by
 have HN := hid hn
 clear hn
 go_enter Tryz.func66, Tryz.ntmps66
 go_wp2_with fail
 go_loopg [5] l.length (fun g i wr => ∃ j : Nat, j ≤ l.length ∧ g = l.length - j ∧ i = .int .i64 j ∧ w = wr ∧ ∀ y ∈ l.take j, ¬ y = s)
 case atStart => exact ⟨0, Nat.zero_le _, rfl, rfl, rfl, fun y hy => by simp at hy⟩
 case round =>
  obtain ⟨j, hj, rfl, rfl, rfl, hall⟩ := hrel
  have HA := hid hall
  clear hall
  by_cases hlt : j < l.length
  ·obtain ⟨x, hx⟩ : ∃ x, l[j]? = some x := ⟨_, List.getElem?_eq_getElem hlt⟩
   obtain ⟨b, off, rfl, hbl, hc⟩ := text_at HN.out hx
   have HX := hid hx
   have g1 : (0 : Int) ≤ j := by omega
   have g2 : (j : Int) < l.length := by omega
   have gw : IntKind.i64.wrap ((j : Int) + 1) = ((j + 1 : Nat) : Int) := by rw [IntKind.wrap_i64]; omega
   clear hx
   by_cases hs : x = s
   ·have hs2 : (x.toList == s.toList) = true := by rw [hs]; exact beq_self_eq_true _
    have HH : Hid (Ex.inN l s = true) := (Ex.inN_iff l s).2 (hs ▸ List.mem_of_getElem? HX.out)
    clear hs
    go_wp2_with fail
    go_ret
    exact ⟨by rw [HH.out]; rfl, rfl⟩
   ·have hs2 : (x.toList == s.toList) = false := beq_eq_false_iff_ne.2 fun h => hs (toList_inj' h)
    have HS := hid hs
    clear hs
    go_wp2_with fail
    go_roundg (l.length - (j + 1))
    case measure => omega
    case rel =>
     refine ⟨j + 1, by omega, rfl, by go_num, rfl, fun y hy => ?_⟩
     rw [List.take_add_one, HX.out] at hy
     simp at hy
     rcases hy with hy | rfl
     ·exact HA.out y hy
     ·exact HS.out
  ·have hje : j = l.length := by omega
   have HH : Hid (Ex.inN l s = false) := by
    unfold Hid
    rw [Bool.eq_false_iff]
    intro h
    have h := (Ex.inN_iff l s).1 h
    exact HA.out s (by rw [hje, List.take_length]; exact h) rfl
   have hge : (l.length : Int) ≤ j := by omega
   go_wp2_with fail
   go_ret
   exact ⟨by rw [HH.out]; rfl, rfl⟩
theorem rin_any (l : List ByteArray) (s : ByteArray) {w : World} {na : Option Addr} {nc : Nat} (hn : Sl w (.slice na l.length nc) (strs l)) (hl : l.length ≤ 10000000000) :
  Calls Tryz.prog 66 #[.slice na l.length nc, .string s] w (Says (.bool (Ex.inN l s)) w) :=
 (rin_at l s hn (by omega)).mono fun e w' h => ⟨h.1, by rw [← h.2]; exact Below.refl _ _⟩
set_option maxHeartbeats 8000000 in
theorem pin_at (l : List ByteArray) (s : ByteArray) {w : World} {na : Option Addr} {nc : Nat} (hn : Sl w (.slice na l.length nc) (strs l)) (hl : l.length ≤ 9223372036854775807) :
  Calls Tryz.prog 85 #[.slice na l.length nc, .string s] w fun e w' => e = .returned (.bool (Ex.inN l s)) ∧ w = w' := by
 have HN := hid hn
 clear hn
 go_enter Tryz.func85, Tryz.ntmps85
 go_wp2_with fail
 go_loopg [9] l.length (fun g i wr => ∃ j : Nat, j ≤ l.length ∧ g = l.length - j ∧ i = .int .i64 j ∧ w = wr ∧ ∀ y ∈ l.take j, ¬ y = s)
 case atStart => exact ⟨0, Nat.zero_le _, rfl, rfl, rfl, fun y hy => by simp at hy⟩
 case round =>
  obtain ⟨j, hj, rfl, rfl, rfl, hall⟩ := hrel
  have HA := hid hall
  clear hall
  by_cases hlt : j < l.length
  ·obtain ⟨x, hx⟩ : ∃ x, l[j]? = some x := ⟨_, List.getElem?_eq_getElem hlt⟩
   obtain ⟨b, off, rfl, hbl, hc⟩ := text_at HN.out hx
   have HX := hid hx
   have g1 : (0 : Int) ≤ j := by omega
   have g2 : (j : Int) < l.length := by omega
   have gw : IntKind.i64.wrap ((j : Int) + 1) = ((j + 1 : Nat) : Int) := by rw [IntKind.wrap_i64]; omega
   clear hx
   by_cases hs : x = s
   ·have hs2 : (x.toList == s.toList) = true := by rw [hs]; exact beq_self_eq_true _
    have HH : Hid (Ex.inN l s = true) := (Ex.inN_iff l s).2 (hs ▸ List.mem_of_getElem? HX.out)
    clear hs
    go_wp2_with fail
    go_ret
    exact ⟨by rw [HH.out]; rfl, rfl⟩
   ·have hs2 : (x.toList == s.toList) = false := beq_eq_false_iff_ne.2 fun h => hs (toList_inj' h)
    have HS := hid hs
    clear hs
    go_wp2_with fail
    go_roundg (l.length - (j + 1))
    case measure => omega
    case rel =>
     refine ⟨j + 1, by omega, rfl, by go_num, rfl, fun y hy => ?_⟩
     rw [List.take_add_one, HX.out] at hy
     simp at hy
     rcases hy with hy | rfl
     ·exact HA.out y hy
     ·exact HS.out
  ·have hje : j = l.length := by omega
   have HH : Hid (Ex.inN l s = false) := by
    unfold Hid
    rw [Bool.eq_false_iff]
    intro h
    have h := (Ex.inN_iff l s).1 h
    exact HA.out s (by rw [hje, List.take_length]; exact h) rfl
   have hge : (l.length : Int) ≤ j := by omega
   go_wp2_with fail
   go_ret
   exact ⟨by rw [HH.out]; rfl, rfl⟩
theorem pin_any (l : List ByteArray) (s : ByteArray) {w : World} {na : Option Addr} {nc : Nat} (hn : Sl w (.slice na l.length nc) (strs l)) (hl : l.length ≤ 10000000000) :
  Calls Tryz.prog 85 #[.slice na l.length nc, .string s] w (Says (.bool (Ex.inN l s)) w) :=
 (pin_at l s hn (by omega)).mono fun e w' h => ⟨h.1, by rw [← h.2]; exact Below.refl _ _⟩
def fewN (e : Ex) : Bool := decide (e.names.length ≤ 1000000) && e.const.list.isEmpty
structure Few (e : Ex) : Prop where
 size : e.size ≤ 100000
 names : Ex.all fewN e = true
theorem Few.kid {e x : Ex} (h : Few e) (hx : x ∈ e.kids) : Few x := by
 have h1 := Ex.size_mem _ _ hx
 have h2 := Ex.size_eq e
 have h3 := h.size
 exact ⟨by omega, ((Ex.all_iff fewN e).1 h.names).2 x hx⟩
theorem Few.len {e : Ex} (h : Few e) : e.kids.length ≤ 100000 := by
 have h1 := Ex.sizes_len e.kids
 have h2 := Ex.size_eq e
 have h3 := h.size
 omega
theorem Few.nl {e : Ex} (h : Few e) : e.names.length ≤ 1000000 := by
 have := ((Ex.all_iff fewN e).1 h.names).1
 unfold fewN at this
 rw [Bool.and_eq_true] at this
 exact of_decide_eq_true this.1
theorem Few.cl {e : Ex} (h : Few e) : e.const.list = [] := by
 have := ((Ex.all_iff fewN e).1 h.names).1
 unfold fewN at this
 rw [Bool.and_eq_true] at this
 exact List.isEmpty_iff.1 this.2
theorem upto_step {P : Nat → Ex → Bool} {l : List Ex} {j : Nat} {x : Ex} (h : ∀ i y, i < j → l[i]? = some y → P i y = false) (hx : l[j]? = some x) (hp : P j x = false) : ∀ i y, i < j + 1 → l[i]? = some y → P i y = false := by
 intro i y hi hy
 by_cases e : i = j
 ·subst e
  rw [hx] at hy
  cases hy
  exact hp
 ·exact h i y (by omega) hy
def setsAt (e : Ex) (s : ByteArray) (i : Nat) (x : Ex) : Bool := !(Ex.binds e.kind e.kids.length i && Ex.inN e.names s) && Ex.sets s x
theorem sets_no {e : Ex} {s : ByteArray} (h1 : ¬ (e.kind = 2 ∧ e.name = s)) (h : ∀ i y, i < e.kids.length → e.kids[i]? = some y → setsAt e s i y = false) : Ex.sets s e = false := by
 rw [Bool.eq_false_iff]
 intro hc
 rcases (Ex.sets_iff s e).1 hc with hc | ⟨j, x, hx, hb, hs⟩
 ·exact h1 hc
 ·have := h j x (List.getElem?_eq_some_iff.1 hx).1 hx
  unfold setsAt at this
  rw [hb, hs] at this
  cases this
theorem sets_yes {e : Ex} {s : ByteArray} {j : Nat} {x : Ex} (hx : e.kids[j]? = some x) (h : setsAt e s j x = true) : Ex.sets s e = true := by
 unfold setsAt at h
 simp only [Bool.and_eq_true, Bool.not_eq_true'] at h
 exact (Ex.sets_iff s e).2 (.inr ⟨j, x, hx, h.1, h.2⟩)
def asgAt (e : Ex) (s : ByteArray) (i : Nat) (x : Ex) : Bool := Ex.binds e.kind e.kids.length i && Ex.sets s x
theorem asg_no {e : Ex} {s : ByteArray} (h : ∀ i y, i < e.kids.length → e.kids[i]? = some y → asgAt e s i y = false) : Ex.assigned e s = false := by
 rw [Bool.eq_false_iff]
 intro hc
 obtain ⟨j, x, hx, hb, hs⟩ := (Ex.assigned_iff e s).1 hc
 have := h j x (List.getElem?_eq_some_iff.1 hx).1 hx
 unfold asgAt at this
 rw [hb, hs] at this
 cases this
theorem asg_yes {e : Ex} {s : ByteArray} {j : Nat} {x : Ex} (hx : e.kids[j]? = some x) (h : asgAt e s j x = true) : Ex.assigned e s = true := by
 unfold asgAt at h
 rw [Bool.and_eq_true] at h
 exact (Ex.assigned_iff e s).2 ⟨j, x, hx, h.1, h.2⟩
set_option maxHeartbeats 8000000 in
theorem rsets_any (s : ByteArray) (e : Ex) : ∀ {w : World} {na : Option Addr} {nc : Nat} {da : Option Addr} {dn dc : Nat} {ka : Option Addr} {kc : Nat}, Few e → Op w e na nc da dn dc ka kc →
  Calls Tryz.prog 53 #[.agg #[.int .i64 e.kind, .string e.name, .slice na e.names.length nc, .int .i64 e.const.kind, .int .i64 e.const.int, .string e.const.text, .slice da dn dc, .slice ka e.kids.length kc], .string s] w (Says (.bool (Ex.sets s e)) w) := by
 induction e using Ex.byKids with
 | h e ih =>
 intro w na nc da dn dc ka kc hsz ho
 obtain ⟨w1, B1⟩ := boxedE w e na nc da dn dc ka kc
 have hR := Row.of B1.blk
 have HO := hid (ho.bel B1.below)
 have HB := hid B1
 have HR := hid hR
 have HIH := hid ih
 clear ih
 have hl := hsz.len
 have HSZ := hid hsz
 obtain ⟨x0, x1, x2, x3, x4, x5, x6, x7, hbl⟩ := hR
 clear B1 ho hsz
 by_cases hk : e.kind = 2
 ·have k1 : (e.kind == 2) = true := by rw [hk]; rfl
  by_cases hs : e.name = s
  ·have k2 : (e.name.toList == s.toList) = true := by rw [hs]; exact beq_self_eq_true _
   have HH : Hid (Ex.sets s e = true) := (Ex.sets_iff s e).2 (.inl ⟨hk, hs⟩)
   clear hk hs
   go_enter Tryz.func53, Tryz.ntmps53
   go_upto_region 1 with fail
   rw [← HB.out.eq]
   go_wp2_with fail
   go_ret
   exact ⟨by rw [HH.out]; rfl, HB.out.below⟩
  ·have k2 : (e.name.toList == s.toList) = false := beq_eq_false_iff_ne.2 fun h => hs (toList_inj' h)
   have hno : ¬ (e.kind = 2 ∧ e.name = s) := fun h => hs h.2
   have HNO := hid hno
   clear hno hk hs
   go_enter Tryz.func53, Tryz.ntmps53
   go_upto_region 1 with fail
   rw [← HB.out.eq]
   go_wp2_with fail
   go_loopg [5] e.kids.length (fun g i wr => ∃ j : Nat, j ≤ e.kids.length ∧ g = e.kids.length - j ∧ i = .int .i64 j ∧ Below w1.heap.size w1 wr ∧ ∀ i y, i < j → e.kids[i]? = some y → setsAt e s i y = false)
   case atStart => exact ⟨0, Nat.zero_le _, rfl, rfl, Below.refl _ _, fun i y hi => absurd hi (Nat.not_lt_zero _)⟩
   case round =>
    obtain ⟨j, hj, rfl, rfl, hb, hall⟩ := hrel
    have HBW := hid hb
    have HA := hid hall
    obtain ⟨y0, y1, y2, y3, y4, y5, y6, y7, ybl⟩ := HR.out.bel hb
    clear hb hall
    by_cases hlt : j < e.kids.length
    ·obtain ⟨x, hx⟩ : ∃ x, e.kids[j]? = some x := ⟨_, List.getElem?_eq_getElem hlt⟩
     have HX := hid hx
     have gw : IntKind.i64.wrap ((j : Int) + 1) = ((j + 1 : Nat) : Int) := by rw [IntKind.wrap_i64]; omega
     have HJ : Hid (j ≤ 100000) := by unfold Hid; omega
     have HL : Hid (e.kids.length ≤ 100000) := hl
     clear hx
     have HC := hid (rbinds_any j HJ.out e HL.out (HO.out.bel HBW.out))
     go_wp2_with fail
     with_reducible refine HC.out.mono ?_
     rintro e2 w3 ⟨rfl, hb2⟩
     have HBW : Hid (Below w1.heap.size w1 w3) := HBW.out.trans (hb2.mono HBW.out.size)
     clear hb2
     obtain ⟨y0, y1, y2, y3, y4, y5, y6, y7, ybl⟩ := HR.out.bel HBW.out
     cases hbd : Ex.binds e.kind e.kids.length j with
     | false =>
      have HBD := hid hbd
      clear hbd
      obtain ⟨kb, koff, na2, nc2, da2, dn2, dc2, ya2, yc2, hk⟩ := (HO.out.bel HBW.out).kid HX.out
      have HKO := hid hk.op
      obtain ⟨e1, hkb, ⟨g1, g2⟩, _, c0, c1, c2, c3, c4, c5, c6, c7⟩ := hk
      subst e1
      have HC := hid (HIH.out x (List.mem_of_getElem? HX.out) (HSZ.out.kid (List.mem_of_getElem? HX.out)) HKO.out)
      go_wp2_with fail
      with_reducible refine HC.out.mono ?_
      rintro e2 w4 ⟨rfl, hb2⟩
      have HBW : Hid (Below w1.heap.size w1 w4) := HBW.out.trans (hb2.mono HBW.out.size)
      clear hb2
      obtain ⟨y0, y1, y2, y3, y4, y5, y6, y7, ybl⟩ := HR.out.bel HBW.out
      cases hh : Ex.sets s x with
      | true =>
       have HP : Hid (setsAt e s j x = true) := by unfold Hid setsAt; rw [HBD.out, hh]; rfl
       clear hh
       have HH := hid (sets_yes HX.out HP.out)
       go_wp2_with fail
       go_ret
       exact ⟨by rw [HH.out]; rfl, HB.out.below.trans (HBW.out.mono HB.out.below.size)⟩
      | false =>
       have HP : Hid (setsAt e s j x = false) := by unfold Hid setsAt; rw [HBD.out, hh]; rfl
       clear hh
       go_wp2_with fail
       go_roundg (e.kids.length - (j + 1))
       case measure => omega
       case rel => exact ⟨j + 1, by omega, rfl, by go_num, HBW.out, upto_step HA.out HX.out HP.out⟩
     | true =>
      have HBD := hid hbd
      clear hbd
      have HC := hid (rin_any e.names s (HO.out.bel HBW.out).names (by have := HSZ.out.nl; omega))
      go_wp2_with fail
      with_reducible refine HC.out.mono ?_
      rintro e2 w4 ⟨rfl, hb2⟩
      have HBW : Hid (Below w1.heap.size w1 w4) := HBW.out.trans (hb2.mono HBW.out.size)
      clear hb2
      obtain ⟨y0, y1, y2, y3, y4, y5, y6, y7, ybl⟩ := HR.out.bel HBW.out
      cases hin : Ex.inN e.names s with
      | true =>
       have HP : Hid (setsAt e s j x = false) := by unfold Hid setsAt; rw [HBD.out, hin]; rfl
       clear hin
       go_wp2_with fail
       go_roundg (e.kids.length - (j + 1))
       case measure => omega
       case rel => exact ⟨j + 1, by omega, rfl, by go_num, HBW.out, upto_step HA.out HX.out HP.out⟩
      | false =>
       have HIN := hid hin
       clear hin
       obtain ⟨kb, koff, na2, nc2, da2, dn2, dc2, ya2, yc2, hk⟩ := (HO.out.bel HBW.out).kid HX.out
       have HKO := hid hk.op
       obtain ⟨e1, hkb, ⟨g1, g2⟩, _, c0, c1, c2, c3, c4, c5, c6, c7⟩ := hk
       subst e1
       have HC := hid (HIH.out x (List.mem_of_getElem? HX.out) (HSZ.out.kid (List.mem_of_getElem? HX.out)) HKO.out)
       go_wp2_with fail
       with_reducible refine HC.out.mono ?_
       rintro e2 w5 ⟨rfl, hb2⟩
       have HBW : Hid (Below w1.heap.size w1 w5) := HBW.out.trans (hb2.mono HBW.out.size)
       clear hb2
       obtain ⟨y0, y1, y2, y3, y4, y5, y6, y7, ybl⟩ := HR.out.bel HBW.out
       cases hh : Ex.sets s x with
       | true =>
        have HP : Hid (setsAt e s j x = true) := by unfold Hid setsAt; rw [HBD.out, HIN.out, hh]; rfl
        clear hh
        have HH := hid (sets_yes HX.out HP.out)
        go_wp2_with fail
        go_ret
        exact ⟨by rw [HH.out]; rfl, HB.out.below.trans (HBW.out.mono HB.out.below.size)⟩
       | false =>
        have HP : Hid (setsAt e s j x = false) := by unfold Hid setsAt; rw [HBD.out, HIN.out, hh]; rfl
        clear hh
        go_wp2_with fail
        go_roundg (e.kids.length - (j + 1))
        case measure => omega
        case rel => exact ⟨j + 1, by omega, rfl, by go_num, HBW.out, upto_step HA.out HX.out HP.out⟩
    ·have hje : j = e.kids.length := by omega
     have HH : Hid (Ex.sets s e = false) := by
      have h := HA.out
      rw [hje] at h
      exact sets_no HNO.out h
     have hge : (e.kids.length : Int) ≤ j := by omega
     go_wp2_with fail
     go_ret
     exact ⟨by rw [HH.out]; rfl, HB.out.below.trans (HBW.out.mono HB.out.below.size)⟩
 ·have k1 : (e.kind == 2) = false := beq_eq_false_iff_ne.2 hk
  have hno : ¬ (e.kind = 2 ∧ e.name = s) := fun h => hk h.1
  have HNO := hid hno
  clear hno hk
  go_enter Tryz.func53, Tryz.ntmps53
  go_upto_region 1 with fail
  rw [← HB.out.eq]
  go_wp2_with fail
  go_loopg [5] e.kids.length (fun g i wr => ∃ j : Nat, j ≤ e.kids.length ∧ g = e.kids.length - j ∧ i = .int .i64 j ∧ Below w1.heap.size w1 wr ∧ ∀ i y, i < j → e.kids[i]? = some y → setsAt e s i y = false)
  case atStart => exact ⟨0, Nat.zero_le _, rfl, rfl, Below.refl _ _, fun i y hi => absurd hi (Nat.not_lt_zero _)⟩
  case round =>
   obtain ⟨j, hj, rfl, rfl, hb, hall⟩ := hrel
   have HBW := hid hb
   have HA := hid hall
   obtain ⟨y0, y1, y2, y3, y4, y5, y6, y7, ybl⟩ := HR.out.bel hb
   clear hb hall
   by_cases hlt : j < e.kids.length
   ·obtain ⟨x, hx⟩ : ∃ x, e.kids[j]? = some x := ⟨_, List.getElem?_eq_getElem hlt⟩
    have HX := hid hx
    have gw : IntKind.i64.wrap ((j : Int) + 1) = ((j + 1 : Nat) : Int) := by rw [IntKind.wrap_i64]; omega
    have HJ : Hid (j ≤ 100000) := by unfold Hid; omega
    have HL : Hid (e.kids.length ≤ 100000) := hl
    clear hx
    have HC := hid (rbinds_any j HJ.out e HL.out (HO.out.bel HBW.out))
    go_wp2_with fail
    with_reducible refine HC.out.mono ?_
    rintro e2 w3 ⟨rfl, hb2⟩
    have HBW : Hid (Below w1.heap.size w1 w3) := HBW.out.trans (hb2.mono HBW.out.size)
    clear hb2
    obtain ⟨y0, y1, y2, y3, y4, y5, y6, y7, ybl⟩ := HR.out.bel HBW.out
    cases hbd : Ex.binds e.kind e.kids.length j with
    | false =>
     have HBD := hid hbd
     clear hbd
     obtain ⟨kb, koff, na2, nc2, da2, dn2, dc2, ya2, yc2, hk⟩ := (HO.out.bel HBW.out).kid HX.out
     have HKO := hid hk.op
     obtain ⟨e1, hkb, ⟨g1, g2⟩, _, c0, c1, c2, c3, c4, c5, c6, c7⟩ := hk
     subst e1
     have HC := hid (HIH.out x (List.mem_of_getElem? HX.out) (HSZ.out.kid (List.mem_of_getElem? HX.out)) HKO.out)
     go_wp2_with fail
     with_reducible refine HC.out.mono ?_
     rintro e2 w4 ⟨rfl, hb2⟩
     have HBW : Hid (Below w1.heap.size w1 w4) := HBW.out.trans (hb2.mono HBW.out.size)
     clear hb2
     obtain ⟨y0, y1, y2, y3, y4, y5, y6, y7, ybl⟩ := HR.out.bel HBW.out
     cases hh : Ex.sets s x with
     | true =>
      have HP : Hid (setsAt e s j x = true) := by unfold Hid setsAt; rw [HBD.out, hh]; rfl
      clear hh
      have HH := hid (sets_yes HX.out HP.out)
      go_wp2_with fail
      go_ret
      exact ⟨by rw [HH.out]; rfl, HB.out.below.trans (HBW.out.mono HB.out.below.size)⟩
     | false =>
      have HP : Hid (setsAt e s j x = false) := by unfold Hid setsAt; rw [HBD.out, hh]; rfl
      clear hh
      go_wp2_with fail
      go_roundg (e.kids.length - (j + 1))
      case measure => omega
      case rel => exact ⟨j + 1, by omega, rfl, by go_num, HBW.out, upto_step HA.out HX.out HP.out⟩
    | true =>
     have HBD := hid hbd
     clear hbd
     have HC := hid (rin_any e.names s (HO.out.bel HBW.out).names (by have := HSZ.out.nl; omega))
     go_wp2_with fail
     with_reducible refine HC.out.mono ?_
     rintro e2 w4 ⟨rfl, hb2⟩
     have HBW : Hid (Below w1.heap.size w1 w4) := HBW.out.trans (hb2.mono HBW.out.size)
     clear hb2
     obtain ⟨y0, y1, y2, y3, y4, y5, y6, y7, ybl⟩ := HR.out.bel HBW.out
     cases hin : Ex.inN e.names s with
     | true =>
      have HP : Hid (setsAt e s j x = false) := by unfold Hid setsAt; rw [HBD.out, hin]; rfl
      clear hin
      go_wp2_with fail
      go_roundg (e.kids.length - (j + 1))
      case measure => omega
      case rel => exact ⟨j + 1, by omega, rfl, by go_num, HBW.out, upto_step HA.out HX.out HP.out⟩
     | false =>
      have HIN := hid hin
      clear hin
      obtain ⟨kb, koff, na2, nc2, da2, dn2, dc2, ya2, yc2, hk⟩ := (HO.out.bel HBW.out).kid HX.out
      have HKO := hid hk.op
      obtain ⟨e1, hkb, ⟨g1, g2⟩, _, c0, c1, c2, c3, c4, c5, c6, c7⟩ := hk
      subst e1
      have HC := hid (HIH.out x (List.mem_of_getElem? HX.out) (HSZ.out.kid (List.mem_of_getElem? HX.out)) HKO.out)
      go_wp2_with fail
      with_reducible refine HC.out.mono ?_
      rintro e2 w5 ⟨rfl, hb2⟩
      have HBW : Hid (Below w1.heap.size w1 w5) := HBW.out.trans (hb2.mono HBW.out.size)
      clear hb2
      obtain ⟨y0, y1, y2, y3, y4, y5, y6, y7, ybl⟩ := HR.out.bel HBW.out
      cases hh : Ex.sets s x with
      | true =>
       have HP : Hid (setsAt e s j x = true) := by unfold Hid setsAt; rw [HBD.out, HIN.out, hh]; rfl
       clear hh
       have HH := hid (sets_yes HX.out HP.out)
       go_wp2_with fail
       go_ret
       exact ⟨by rw [HH.out]; rfl, HB.out.below.trans (HBW.out.mono HB.out.below.size)⟩
      | false =>
       have HP : Hid (setsAt e s j x = false) := by unfold Hid setsAt; rw [HBD.out, HIN.out, hh]; rfl
       clear hh
       go_wp2_with fail
       go_roundg (e.kids.length - (j + 1))
       case measure => omega
       case rel => exact ⟨j + 1, by omega, rfl, by go_num, HBW.out, upto_step HA.out HX.out HP.out⟩
   ·have hje : j = e.kids.length := by omega
    have HH : Hid (Ex.sets s e = false) := by
     have h := HA.out
     rw [hje] at h
     exact sets_no HNO.out h
    have hge : (e.kids.length : Int) ≤ j := by omega
    go_wp2_with fail
    go_ret
    exact ⟨by rw [HH.out]; rfl, HB.out.below.trans (HBW.out.mono HB.out.below.size)⟩
set_option maxHeartbeats 8000000 in
theorem rasg_any (s : ByteArray) (e : Ex) : ∀ {w : World} {na : Option Addr} {nc : Nat} {da : Option Addr} {dn dc : Nat} {ka : Option Addr} {kc : Nat}, Few e → Op w e na nc da dn dc ka kc →
  Calls Tryz.prog 31 #[.agg #[.int .i64 e.kind, .string e.name, .slice na e.names.length nc, .int .i64 e.const.kind, .int .i64 e.const.int, .string e.const.text, .slice da dn dc, .slice ka e.kids.length kc], .string s] w (Says (.bool (Ex.assigned e s)) w) := by
 intro w na nc da dn dc ka kc hsz ho
 obtain ⟨w1, B1⟩ := boxedE w e na nc da dn dc ka kc
 have hR := Row.of B1.blk
 have HO := hid (ho.bel B1.below)
 have HB := hid B1
 have HR := hid hR
 have hl := hsz.len
 have HSZ := hid hsz
 obtain ⟨x0, x1, x2, x3, x4, x5, x6, x7, hbl⟩ := hR
 clear B1 ho hsz
 go_enter Tryz.func31, Tryz.ntmps31
 go_upto_region 1 with fail
 rw [← HB.out.eq]
 go_wp2_with fail
 go_loopg [5] e.kids.length (fun g i wr => ∃ j : Nat, j ≤ e.kids.length ∧ g = e.kids.length - j ∧ i = .int .i64 j ∧ Below w1.heap.size w1 wr ∧ ∀ i y, i < j → e.kids[i]? = some y → asgAt e s i y = false)
 case atStart => exact ⟨0, Nat.zero_le _, rfl, rfl, Below.refl _ _, fun i y hi => absurd hi (Nat.not_lt_zero _)⟩
 case round =>
  obtain ⟨j, hj, rfl, rfl, hb, hall⟩ := hrel
  have HBW := hid hb
  have HA := hid hall
  obtain ⟨y0, y1, y2, y3, y4, y5, y6, y7, ybl⟩ := HR.out.bel hb
  clear hb hall
  by_cases hlt : j < e.kids.length
  ·obtain ⟨x, hx⟩ : ∃ x, e.kids[j]? = some x := ⟨_, List.getElem?_eq_getElem hlt⟩
   have HX := hid hx
   have gw : IntKind.i64.wrap ((j : Int) + 1) = ((j + 1 : Nat) : Int) := by rw [IntKind.wrap_i64]; omega
   have HJ : Hid (j ≤ 100000) := by unfold Hid; omega
   have HL : Hid (e.kids.length ≤ 100000) := hl
   clear hx
   have HC := hid (rbinds_any j HJ.out e HL.out (HO.out.bel HBW.out))
   go_wp2_with fail
   with_reducible refine HC.out.mono ?_
   rintro e2 w3 ⟨rfl, hb2⟩
   have HBW : Hid (Below w1.heap.size w1 w3) := HBW.out.trans (hb2.mono HBW.out.size)
   clear hb2
   obtain ⟨y0, y1, y2, y3, y4, y5, y6, y7, ybl⟩ := HR.out.bel HBW.out
   cases hbd : Ex.binds e.kind e.kids.length j with
   | false =>
    have HP : Hid (asgAt e s j x = false) := by unfold Hid asgAt; rw [hbd]; rfl
    clear hbd
    go_wp2_with fail
    go_roundg (e.kids.length - (j + 1))
    case measure => omega
    case rel => exact ⟨j + 1, by omega, rfl, by go_num, HBW.out, upto_step HA.out HX.out HP.out⟩
   | true =>
    have HBD := hid hbd
    clear hbd
    obtain ⟨kb, koff, na2, nc2, da2, dn2, dc2, ya2, yc2, hk⟩ := (HO.out.bel HBW.out).kid HX.out
    have HKO := hid hk.op
    obtain ⟨e1, hkb, ⟨g1, g2⟩, _, c0, c1, c2, c3, c4, c5, c6, c7⟩ := hk
    subst e1
    have HC := hid (rsets_any s x (HSZ.out.kid (List.mem_of_getElem? HX.out)) HKO.out)
    go_wp2_with fail
    with_reducible refine HC.out.mono ?_
    rintro e2 w4 ⟨rfl, hb2⟩
    have HBW : Hid (Below w1.heap.size w1 w4) := HBW.out.trans (hb2.mono HBW.out.size)
    clear hb2
    obtain ⟨y0, y1, y2, y3, y4, y5, y6, y7, ybl⟩ := HR.out.bel HBW.out
    cases hh : Ex.sets s x with
    | true =>
     have HP : Hid (asgAt e s j x = true) := by unfold Hid asgAt; rw [HBD.out, hh]; rfl
     clear hh
     have HH := hid (asg_yes HX.out HP.out)
     go_wp2_with fail
     go_ret
     exact ⟨by rw [HH.out]; rfl, HB.out.below.trans (HBW.out.mono HB.out.below.size)⟩
    | false =>
     have HP : Hid (asgAt e s j x = false) := by unfold Hid asgAt; rw [HBD.out, hh]; rfl
     clear hh
     go_wp2_with fail
     go_roundg (e.kids.length - (j + 1))
     case measure => omega
     case rel => exact ⟨j + 1, by omega, rfl, by go_num, HBW.out, upto_step HA.out HX.out HP.out⟩
  ·have hje : j = e.kids.length := by omega
   have HH : Hid (Ex.assigned e s = false) := by
    have h := HA.out
    rw [hje] at h
    exact asg_no h
   have hge : (e.kids.length : Int) ≤ j := by omega
   go_wp2_with fail
   go_ret
   exact ⟨by rw [HH.out]; rfl, HB.out.below.trans (HBW.out.mono HB.out.below.size)⟩
set_option maxHeartbeats 8000000 in
theorem psets_any (s : ByteArray) (e : Ex) : ∀ {w : World} {na : Option Addr} {nc : Nat} {da : Option Addr} {dn dc : Nat} {ka : Option Addr} {kc : Nat}, Few e → Op w e na nc da dn dc ka kc →
  Calls Tryz.prog 64 #[.agg #[.int .i64 e.kind, .string e.name, .slice na e.names.length nc, .int .i64 e.const.kind, .int .i64 e.const.int, .string e.const.text, .slice da dn dc, .slice ka e.kids.length kc], .string s] w (Says (.bool (Ex.sets s e)) w) := by
 induction e using Ex.byKids with
 | h e ih =>
 intro w na nc da dn dc ka kc hsz ho
 obtain ⟨w1, B1⟩ := boxedE w e na nc da dn dc ka kc
 have hR := Row.of B1.blk
 have HO := hid (ho.bel B1.below)
 have HB := hid B1
 have HR := hid hR
 have HIH := hid ih
 clear ih
 have hl := hsz.len
 have HSZ := hid hsz
 obtain ⟨x0, x1, x2, x3, x4, x5, x6, x7, hbl⟩ := hR
 clear B1 ho hsz
 by_cases hk : e.kind = 2
 ·have k1 : (e.kind == 2) = true := by rw [hk]; rfl
  by_cases hs : e.name = s
  ·have k2 : (e.name.toList == s.toList) = true := by rw [hs]; exact beq_self_eq_true _
   have HH : Hid (Ex.sets s e = true) := (Ex.sets_iff s e).2 (.inl ⟨hk, hs⟩)
   clear hk hs
   go_enter Tryz.func64, Tryz.ntmps64
   go_upto_region 1 with fail
   rw [← HB.out.eq]
   go_wp2_with fail
   go_ret
   exact ⟨by rw [HH.out]; rfl, HB.out.below⟩
  ·have k2 : (e.name.toList == s.toList) = false := beq_eq_false_iff_ne.2 fun h => hs (toList_inj' h)
   have hno : ¬ (e.kind = 2 ∧ e.name = s) := fun h => hs h.2
   have HNO := hid hno
   clear hno hk hs
   go_enter Tryz.func64, Tryz.ntmps64
   go_upto_region 1 with fail
   rw [← HB.out.eq]
   go_wp2_with fail
   go_loopg [19] e.kids.length (fun g i wr => ∃ j : Nat, j ≤ e.kids.length ∧ g = e.kids.length - j ∧ i = .int .i64 j ∧ Below w1.heap.size w1 wr ∧ ∀ i y, i < j → e.kids[i]? = some y → setsAt e s i y = false)
   case atStart => exact ⟨0, Nat.zero_le _, rfl, rfl, Below.refl _ _, fun i y hi => absurd hi (Nat.not_lt_zero _)⟩
   case round =>
    obtain ⟨j, hj, rfl, rfl, hb, hall⟩ := hrel
    have HBW := hid hb
    have HA := hid hall
    obtain ⟨y0, y1, y2, y3, y4, y5, y6, y7, ybl⟩ := HR.out.bel hb
    clear hb hall
    by_cases hlt : j < e.kids.length
    ·obtain ⟨x, hx⟩ : ∃ x, e.kids[j]? = some x := ⟨_, List.getElem?_eq_getElem hlt⟩
     have HX := hid hx
     have gw : IntKind.i64.wrap ((j : Int) + 1) = ((j + 1 : Nat) : Int) := by rw [IntKind.wrap_i64]; omega
     have HJ : Hid (j ≤ 100000) := by unfold Hid; omega
     have HL : Hid (e.kids.length ≤ 100000) := hl
     clear hx
     obtain ⟨kb, koff, na2, nc2, da2, dn2, dc2, ya2, yc2, hk⟩ := (HO.out.bel HBW.out).kid HX.out
     have HKO := hid hk.op
     obtain ⟨e1, hkb, ⟨g1, g2⟩, _, c0, c1, c2, c3, c4, c5, c6, c7⟩ := hk
     subst e1
     obtain ⟨w2, B2⟩ := boxedE wr x na2 nc2 da2 dn2 dc2 ya2 yc2
     have HB2 := hid B2
     have HXR := hid (Row.of B2.blk)
     have hsw := B2.size
     have HBX : Hid (Below w1.heap.size w1 w2) := HBW.out.trans (B2.below.mono HBW.out.size)
     have HWR := hid HBW.out
     clear B2
     go_upto_region 6 with fail
     rw [← HB2.out.eq]
     have HWX : Hid (Below wr.heap.size wr w2) := HB2.out.below
     have HBW := HBX
     obtain ⟨y0, y1, y2, y3, y4, y5, y6, y7, ybl⟩ := HR.out.bel HBW.out
     obtain ⟨v0, v1, v2, v3, v4, v5, v6, v7, vbl⟩ := HXR.out
     clear c0 c1 c2 c3 c4 c5 c6 c7
     have HC := hid (pbinds_any j HJ.out e HL.out (HO.out.bel HBW.out))
     go_wp2_with fail
     with_reducible refine HC.out.mono ?_
     rintro e2 w3 ⟨rfl, hb2⟩
     have HWX : Hid (Below wr.heap.size wr w3) := HWX.out.trans (hb2.mono HWX.out.size)
     have HBW : Hid (Below w1.heap.size w1 w3) := HBW.out.trans (hb2.mono HBW.out.size)
     have HXR := hid (HXR.out.bel hb2)
     clear hb2
     obtain ⟨y0, y1, y2, y3, y4, y5, y6, y7, ybl⟩ := HR.out.bel HBW.out
     obtain ⟨v0, v1, v2, v3, v4, v5, v6, v7, vbl⟩ := HXR.out
     cases hbd : Ex.binds e.kind e.kids.length j with
     | false =>
      have HBD := hid hbd
      clear hbd
      have HC := hid (HIH.out x (List.mem_of_getElem? HX.out) (HSZ.out.kid (List.mem_of_getElem? HX.out)) (HKO.out.bel HWX.out))
      go_wp2_with fail
      with_reducible refine HC.out.mono ?_
      rintro e2 w4 ⟨rfl, hb2⟩
      have HBW : Hid (Below w1.heap.size w1 w4) := HBW.out.trans (hb2.mono HBW.out.size)
      clear hb2
      obtain ⟨y0, y1, y2, y3, y4, y5, y6, y7, ybl⟩ := HR.out.bel HBW.out
      cases hh : Ex.sets s x with
      | true =>
       have HP : Hid (setsAt e s j x = true) := by unfold Hid setsAt; rw [HBD.out, hh]; rfl
       clear hh
       have HH := hid (sets_yes HX.out HP.out)
       go_wp2_with fail
       go_ret
       exact ⟨by rw [HH.out]; rfl, HB.out.below.trans (HBW.out.mono HB.out.below.size)⟩
      | false =>
       have HP : Hid (setsAt e s j x = false) := by unfold Hid setsAt; rw [HBD.out, hh]; rfl
       clear hh
       go_wp2_with fail
       go_roundg (e.kids.length - (j + 1))
       case measure => omega
       case rel => exact ⟨j + 1, by omega, rfl, by go_num, HBW.out, upto_step HA.out HX.out HP.out⟩
     | true =>
      have HBD := hid hbd
      clear hbd
      have HC := hid (pin_any e.names s (HO.out.bel HBW.out).names (by have := HSZ.out.nl; omega))
      go_wp2_with fail
      with_reducible refine HC.out.mono ?_
      rintro e2 w4 ⟨rfl, hb2⟩
      have HWX : Hid (Below wr.heap.size wr w4) := HWX.out.trans (hb2.mono HWX.out.size)
      have HBW : Hid (Below w1.heap.size w1 w4) := HBW.out.trans (hb2.mono HBW.out.size)
      have HXR := hid (HXR.out.bel hb2)
      clear hb2
      obtain ⟨y0, y1, y2, y3, y4, y5, y6, y7, ybl⟩ := HR.out.bel HBW.out
      obtain ⟨v0, v1, v2, v3, v4, v5, v6, v7, vbl⟩ := HXR.out
      cases hin : Ex.inN e.names s with
      | true =>
       have HP : Hid (setsAt e s j x = false) := by unfold Hid setsAt; rw [HBD.out, hin]; rfl
       clear hin
       go_wp2_with fail
       go_roundg (e.kids.length - (j + 1))
       case measure => omega
       case rel => exact ⟨j + 1, by omega, rfl, by go_num, HBW.out, upto_step HA.out HX.out HP.out⟩
      | false =>
       have HIN := hid hin
       clear hin
       have HC := hid (HIH.out x (List.mem_of_getElem? HX.out) (HSZ.out.kid (List.mem_of_getElem? HX.out)) (HKO.out.bel HWX.out))
       go_wp2_with fail
       with_reducible refine HC.out.mono ?_
       rintro e2 w5 ⟨rfl, hb2⟩
       have HBW : Hid (Below w1.heap.size w1 w5) := HBW.out.trans (hb2.mono HBW.out.size)
       clear hb2
       obtain ⟨y0, y1, y2, y3, y4, y5, y6, y7, ybl⟩ := HR.out.bel HBW.out
       cases hh : Ex.sets s x with
       | true =>
        have HP : Hid (setsAt e s j x = true) := by unfold Hid setsAt; rw [HBD.out, HIN.out, hh]; rfl
        clear hh
        have HH := hid (sets_yes HX.out HP.out)
        go_wp2_with fail
        go_ret
        exact ⟨by rw [HH.out]; rfl, HB.out.below.trans (HBW.out.mono HB.out.below.size)⟩
       | false =>
        have HP : Hid (setsAt e s j x = false) := by unfold Hid setsAt; rw [HBD.out, HIN.out, hh]; rfl
        clear hh
        go_wp2_with fail
        go_roundg (e.kids.length - (j + 1))
        case measure => omega
        case rel => exact ⟨j + 1, by omega, rfl, by go_num, HBW.out, upto_step HA.out HX.out HP.out⟩
    ·have hje : j = e.kids.length := by omega
     have HH : Hid (Ex.sets s e = false) := by
      have h := HA.out
      rw [hje] at h
      exact sets_no HNO.out h
     have hge : (e.kids.length : Int) ≤ j := by omega
     go_wp2_with fail
     go_ret
     exact ⟨by rw [HH.out]; rfl, HB.out.below.trans (HBW.out.mono HB.out.below.size)⟩
 ·have k1 : (e.kind == 2) = false := beq_eq_false_iff_ne.2 hk
  have hno : ¬ (e.kind = 2 ∧ e.name = s) := fun h => hk h.1
  have HNO := hid hno
  clear hno hk
  go_enter Tryz.func64, Tryz.ntmps64
  go_upto_region 1 with fail
  rw [← HB.out.eq]
  go_wp2_with fail
  go_loopg [19] e.kids.length (fun g i wr => ∃ j : Nat, j ≤ e.kids.length ∧ g = e.kids.length - j ∧ i = .int .i64 j ∧ Below w1.heap.size w1 wr ∧ ∀ i y, i < j → e.kids[i]? = some y → setsAt e s i y = false)
  case atStart => exact ⟨0, Nat.zero_le _, rfl, rfl, Below.refl _ _, fun i y hi => absurd hi (Nat.not_lt_zero _)⟩
  case round =>
   obtain ⟨j, hj, rfl, rfl, hb, hall⟩ := hrel
   have HBW := hid hb
   have HA := hid hall
   obtain ⟨y0, y1, y2, y3, y4, y5, y6, y7, ybl⟩ := HR.out.bel hb
   clear hb hall
   by_cases hlt : j < e.kids.length
   ·obtain ⟨x, hx⟩ : ∃ x, e.kids[j]? = some x := ⟨_, List.getElem?_eq_getElem hlt⟩
    have HX := hid hx
    have gw : IntKind.i64.wrap ((j : Int) + 1) = ((j + 1 : Nat) : Int) := by rw [IntKind.wrap_i64]; omega
    have HJ : Hid (j ≤ 100000) := by unfold Hid; omega
    have HL : Hid (e.kids.length ≤ 100000) := hl
    clear hx
    obtain ⟨kb, koff, na2, nc2, da2, dn2, dc2, ya2, yc2, hk⟩ := (HO.out.bel HBW.out).kid HX.out
    have HKO := hid hk.op
    obtain ⟨e1, hkb, ⟨g1, g2⟩, _, c0, c1, c2, c3, c4, c5, c6, c7⟩ := hk
    subst e1
    obtain ⟨w2, B2⟩ := boxedE wr x na2 nc2 da2 dn2 dc2 ya2 yc2
    have HB2 := hid B2
    have HXR := hid (Row.of B2.blk)
    have hsw := B2.size
    have HBX : Hid (Below w1.heap.size w1 w2) := HBW.out.trans (B2.below.mono HBW.out.size)
    have HWR := hid HBW.out
    clear B2
    go_upto_region 6 with fail
    rw [← HB2.out.eq]
    have HWX : Hid (Below wr.heap.size wr w2) := HB2.out.below
    have HBW := HBX
    obtain ⟨y0, y1, y2, y3, y4, y5, y6, y7, ybl⟩ := HR.out.bel HBW.out
    obtain ⟨v0, v1, v2, v3, v4, v5, v6, v7, vbl⟩ := HXR.out
    clear c0 c1 c2 c3 c4 c5 c6 c7
    have HC := hid (pbinds_any j HJ.out e HL.out (HO.out.bel HBW.out))
    go_wp2_with fail
    with_reducible refine HC.out.mono ?_
    rintro e2 w3 ⟨rfl, hb2⟩
    have HWX : Hid (Below wr.heap.size wr w3) := HWX.out.trans (hb2.mono HWX.out.size)
    have HBW : Hid (Below w1.heap.size w1 w3) := HBW.out.trans (hb2.mono HBW.out.size)
    have HXR := hid (HXR.out.bel hb2)
    clear hb2
    obtain ⟨y0, y1, y2, y3, y4, y5, y6, y7, ybl⟩ := HR.out.bel HBW.out
    obtain ⟨v0, v1, v2, v3, v4, v5, v6, v7, vbl⟩ := HXR.out
    cases hbd : Ex.binds e.kind e.kids.length j with
    | false =>
     have HBD := hid hbd
     clear hbd
     have HC := hid (HIH.out x (List.mem_of_getElem? HX.out) (HSZ.out.kid (List.mem_of_getElem? HX.out)) (HKO.out.bel HWX.out))
     go_wp2_with fail
     with_reducible refine HC.out.mono ?_
     rintro e2 w4 ⟨rfl, hb2⟩
     have HBW : Hid (Below w1.heap.size w1 w4) := HBW.out.trans (hb2.mono HBW.out.size)
     clear hb2
     obtain ⟨y0, y1, y2, y3, y4, y5, y6, y7, ybl⟩ := HR.out.bel HBW.out
     cases hh : Ex.sets s x with
     | true =>
      have HP : Hid (setsAt e s j x = true) := by unfold Hid setsAt; rw [HBD.out, hh]; rfl
      clear hh
      have HH := hid (sets_yes HX.out HP.out)
      go_wp2_with fail
      go_ret
      exact ⟨by rw [HH.out]; rfl, HB.out.below.trans (HBW.out.mono HB.out.below.size)⟩
     | false =>
      have HP : Hid (setsAt e s j x = false) := by unfold Hid setsAt; rw [HBD.out, hh]; rfl
      clear hh
      go_wp2_with fail
      go_roundg (e.kids.length - (j + 1))
      case measure => omega
      case rel => exact ⟨j + 1, by omega, rfl, by go_num, HBW.out, upto_step HA.out HX.out HP.out⟩
    | true =>
     have HBD := hid hbd
     clear hbd
     have HC := hid (pin_any e.names s (HO.out.bel HBW.out).names (by have := HSZ.out.nl; omega))
     go_wp2_with fail
     with_reducible refine HC.out.mono ?_
     rintro e2 w4 ⟨rfl, hb2⟩
     have HWX : Hid (Below wr.heap.size wr w4) := HWX.out.trans (hb2.mono HWX.out.size)
     have HBW : Hid (Below w1.heap.size w1 w4) := HBW.out.trans (hb2.mono HBW.out.size)
     have HXR := hid (HXR.out.bel hb2)
     clear hb2
     obtain ⟨y0, y1, y2, y3, y4, y5, y6, y7, ybl⟩ := HR.out.bel HBW.out
     obtain ⟨v0, v1, v2, v3, v4, v5, v6, v7, vbl⟩ := HXR.out
     cases hin : Ex.inN e.names s with
     | true =>
      have HP : Hid (setsAt e s j x = false) := by unfold Hid setsAt; rw [HBD.out, hin]; rfl
      clear hin
      go_wp2_with fail
      go_roundg (e.kids.length - (j + 1))
      case measure => omega
      case rel => exact ⟨j + 1, by omega, rfl, by go_num, HBW.out, upto_step HA.out HX.out HP.out⟩
     | false =>
      have HIN := hid hin
      clear hin
      have HC := hid (HIH.out x (List.mem_of_getElem? HX.out) (HSZ.out.kid (List.mem_of_getElem? HX.out)) (HKO.out.bel HWX.out))
      go_wp2_with fail
      with_reducible refine HC.out.mono ?_
      rintro e2 w5 ⟨rfl, hb2⟩
      have HBW : Hid (Below w1.heap.size w1 w5) := HBW.out.trans (hb2.mono HBW.out.size)
      clear hb2
      obtain ⟨y0, y1, y2, y3, y4, y5, y6, y7, ybl⟩ := HR.out.bel HBW.out
      cases hh : Ex.sets s x with
      | true =>
       have HP : Hid (setsAt e s j x = true) := by unfold Hid setsAt; rw [HBD.out, HIN.out, hh]; rfl
       clear hh
       have HH := hid (sets_yes HX.out HP.out)
       go_wp2_with fail
       go_ret
       exact ⟨by rw [HH.out]; rfl, HB.out.below.trans (HBW.out.mono HB.out.below.size)⟩
      | false =>
       have HP : Hid (setsAt e s j x = false) := by unfold Hid setsAt; rw [HBD.out, HIN.out, hh]; rfl
       clear hh
       go_wp2_with fail
       go_roundg (e.kids.length - (j + 1))
       case measure => omega
       case rel => exact ⟨j + 1, by omega, rfl, by go_num, HBW.out, upto_step HA.out HX.out HP.out⟩
   ·have hje : j = e.kids.length := by omega
    have HH : Hid (Ex.sets s e = false) := by
     have h := HA.out
     rw [hje] at h
     exact sets_no HNO.out h
    have hge : (e.kids.length : Int) ≤ j := by omega
    go_wp2_with fail
    go_ret
    exact ⟨by rw [HH.out]; rfl, HB.out.below.trans (HBW.out.mono HB.out.below.size)⟩
set_option maxHeartbeats 8000000 in
theorem pasg_any (s : ByteArray) (e : Ex) : ∀ {w : World} {na : Option Addr} {nc : Nat} {da : Option Addr} {dn dc : Nat} {ka : Option Addr} {kc : Nat}, Few e → Op w e na nc da dn dc ka kc →
  Calls Tryz.prog 43 #[.agg #[.int .i64 e.kind, .string e.name, .slice na e.names.length nc, .int .i64 e.const.kind, .int .i64 e.const.int, .string e.const.text, .slice da dn dc, .slice ka e.kids.length kc], .string s] w (Says (.bool (Ex.assigned e s)) w) := by
 intro w na nc da dn dc ka kc hsz ho
 obtain ⟨w1, B1⟩ := boxedE w e na nc da dn dc ka kc
 have hR := Row.of B1.blk
 have HO := hid (ho.bel B1.below)
 have HB := hid B1
 have HR := hid hR
 have hl := hsz.len
 have HSZ := hid hsz
 obtain ⟨x0, x1, x2, x3, x4, x5, x6, x7, hbl⟩ := hR
 clear B1 ho hsz
 go_enter Tryz.func43, Tryz.ntmps43
 go_upto_region 1 with fail
 rw [← HB.out.eq]
 go_wp2_with fail
 go_loopg [10] e.kids.length (fun g i wr => ∃ j : Nat, j ≤ e.kids.length ∧ g = e.kids.length - j ∧ i = .int .i64 j ∧ Below w1.heap.size w1 wr ∧ ∀ i y, i < j → e.kids[i]? = some y → asgAt e s i y = false)
 case atStart => exact ⟨0, Nat.zero_le _, rfl, rfl, Below.refl _ _, fun i y hi => absurd hi (Nat.not_lt_zero _)⟩
 case round =>
  obtain ⟨j, hj, rfl, rfl, hb, hall⟩ := hrel
  have HBW := hid hb
  have HA := hid hall
  obtain ⟨y0, y1, y2, y3, y4, y5, y6, y7, ybl⟩ := HR.out.bel hb
  clear hb hall
  by_cases hlt : j < e.kids.length
  ·obtain ⟨x, hx⟩ : ∃ x, e.kids[j]? = some x := ⟨_, List.getElem?_eq_getElem hlt⟩
   have HX := hid hx
   have gw : IntKind.i64.wrap ((j : Int) + 1) = ((j + 1 : Nat) : Int) := by rw [IntKind.wrap_i64]; omega
   have HJ : Hid (j ≤ 100000) := by unfold Hid; omega
   have HL : Hid (e.kids.length ≤ 100000) := hl
   clear hx
   obtain ⟨kb, koff, na2, nc2, da2, dn2, dc2, ya2, yc2, hk⟩ := (HO.out.bel HBW.out).kid HX.out
   have HKO := hid hk.op
   obtain ⟨e1, hkb, ⟨g1, g2⟩, _, c0, c1, c2, c3, c4, c5, c6, c7⟩ := hk
   subst e1
   obtain ⟨w2, B2⟩ := boxedE wr x na2 nc2 da2 dn2 dc2 ya2 yc2
   have HB2 := hid B2
   have HXR := hid (Row.of B2.blk)
   have hsw := B2.size
   have HBX : Hid (Below w1.heap.size w1 w2) := HBW.out.trans (B2.below.mono HBW.out.size)
   have HWR := hid HBW.out
   clear B2
   go_upto_region 4 with fail
   rw [← HB2.out.eq]
   have HWX : Hid (Below wr.heap.size wr w2) := HB2.out.below
   have HBW := HBX
   obtain ⟨y0, y1, y2, y3, y4, y5, y6, y7, ybl⟩ := HR.out.bel HBW.out
   obtain ⟨v0, v1, v2, v3, v4, v5, v6, v7, vbl⟩ := HXR.out
   clear c0 c1 c2 c3 c4 c5 c6 c7
   have HC := hid (pbinds_any j HJ.out e HL.out (HO.out.bel HBW.out))
   go_wp2_with fail
   with_reducible refine HC.out.mono ?_
   rintro e2 w3 ⟨rfl, hb2⟩
   have HWX : Hid (Below wr.heap.size wr w3) := HWX.out.trans (hb2.mono HWX.out.size)
   have HBW : Hid (Below w1.heap.size w1 w3) := HBW.out.trans (hb2.mono HBW.out.size)
   have HXR := hid (HXR.out.bel hb2)
   clear hb2
   obtain ⟨y0, y1, y2, y3, y4, y5, y6, y7, ybl⟩ := HR.out.bel HBW.out
   obtain ⟨v0, v1, v2, v3, v4, v5, v6, v7, vbl⟩ := HXR.out
   cases hbd : Ex.binds e.kind e.kids.length j with
   | false =>
    have HP : Hid (asgAt e s j x = false) := by unfold Hid asgAt; rw [hbd]; rfl
    clear hbd
    go_wp2_with fail
    go_roundg (e.kids.length - (j + 1))
    case measure => omega
    case rel => exact ⟨j + 1, by omega, rfl, by go_num, HBW.out, upto_step HA.out HX.out HP.out⟩
   | true =>
    have HBD := hid hbd
    clear hbd
    have HC := hid (psets_any s x (HSZ.out.kid (List.mem_of_getElem? HX.out)) (HKO.out.bel HWX.out))
    go_wp2_with fail
    with_reducible refine HC.out.mono ?_
    rintro e2 w4 ⟨rfl, hb2⟩
    have HBW : Hid (Below w1.heap.size w1 w4) := HBW.out.trans (hb2.mono HBW.out.size)
    clear hb2
    obtain ⟨y0, y1, y2, y3, y4, y5, y6, y7, ybl⟩ := HR.out.bel HBW.out
    cases hh : Ex.sets s x with
    | true =>
     have HP : Hid (asgAt e s j x = true) := by unfold Hid asgAt; rw [HBD.out, hh]; rfl
     clear hh
     have HH := hid (asg_yes HX.out HP.out)
     go_wp2_with fail
     go_ret
     exact ⟨by rw [HH.out]; rfl, HB.out.below.trans (HBW.out.mono HB.out.below.size)⟩
    | false =>
     have HP : Hid (asgAt e s j x = false) := by unfold Hid asgAt; rw [HBD.out, hh]; rfl
     clear hh
     go_wp2_with fail
     go_roundg (e.kids.length - (j + 1))
     case measure => omega
     case rel => exact ⟨j + 1, by omega, rfl, by go_num, HBW.out, upto_step HA.out HX.out HP.out⟩
  ·have hje : j = e.kids.length := by omega
   have HH : Hid (Ex.assigned e s = false) := by
    have h := HA.out
    rw [hje] at h
    exact asg_no h
   have hge : (e.kids.length : Int) ≤ j := by omega
   go_wp2_with fail
   go_ret
   exact ⟨by rw [HH.out]; rfl, HB.out.below.trans (HBW.out.mono HB.out.below.size)⟩
set_option maxHeartbeats 8000000 in
theorem rhas_any (q : Int) (e : Ex) : ∀ {w : World} {na : Option Addr} {nc : Nat} {da : Option Addr} {dn dc : Nat} {ka : Option Addr} {kc : Nat}, e.size ≤ 100000 → Op w e na nc da dn dc ka kc →
  Calls Tryz.prog 12 #[.agg #[.int .i64 e.kind, .string e.name, .slice na e.names.length nc, .int .i64 e.const.kind, .int .i64 e.const.int, .string e.const.text, .slice da dn dc, .slice ka e.kids.length kc], .int .i64 q] w (Says (.bool (Ex.has q e)) w) := by
 induction e using Ex.byKids with
 | h e ih =>
 intro w na nc da dn dc ka kc hsz ho
 obtain ⟨w1, B1⟩ := boxedE w e na nc da dn dc ka kc
 have hR := Row.of B1.blk
 have HO := hid ho
 have HB := hid B1
 have HR := hid hR
 have HIH := hid ih
 have HL := Ex.sizes_len e.kids
 have HS := Ex.size_eq e
 have hl : e.kids.length ≤ 100000 := by omega
 have HSZ := hid hsz
 obtain ⟨x0, _, _, _, _, _, _, x7, hbl⟩ := hR
 clear B1 ho ih HL HS hsz
 by_cases hq : e.kind = q
 ·have hq2 : (e.kind == q) = true := by rw [hq]; exact beq_self_eq_true _
  have hh : Ex.has q e = true := (Ex.has_iff q e).2 (.inl hq)
  rw [hh]
  clear hq hh
  go_enter Tryz.func12, Tryz.ntmps12
  go_upto_region 1 with fail
  rw [← HB.out.eq]
  go_wp2_with fail
  go_ret
  exact ⟨rfl, HB.out.below⟩
 ·have hq2 : (e.kind == q) = false := beq_eq_false_iff_ne.2 hq
  have HQ := hid hq
  clear hq
  go_enter Tryz.func12, Tryz.ntmps12
  go_upto_region 1 with fail
  rw [← HB.out.eq]
  go_wp2_with fail
  go_loopg [5] e.kids.length (fun g i wr => ∃ j : Nat, j ≤ e.kids.length ∧ g = e.kids.length - j ∧ i = .int .i64 j ∧ Below w1.heap.size w1 wr ∧ ∀ y ∈ e.kids.take j, Ex.has q y = false)
  case atStart => exact ⟨0, Nat.zero_le _, rfl, rfl, Below.refl _ _, fun y hy => by simp at hy⟩
  case round =>
   obtain ⟨j, hj, rfl, rfl, hb, hall⟩ := hrel
   have HB2 := hid hb
   have HA := hid hall
   have hR2 := HR.out.bel hb
   obtain ⟨y0, _, _, _, _, _, _, y7, ybl⟩ := hR2
   clear hb hall
   by_cases hlt : j < e.kids.length
   ·obtain ⟨x, hx⟩ : ∃ x, e.kids[j]? = some x := ⟨_, List.getElem?_eq_getElem hlt⟩
    have hxm := List.mem_of_getElem? hx
    have HSX := Ex.size_mem _ _ hxm
    have HSE := Ex.size_eq e
    obtain ⟨kb, koff, na2, nc2, da2, dn2, dc2, ya2, yc2, hk⟩ := ((HO.out.bel HB.out.below).bel HB2.out).kid hx
    have hcall := HIH.out x hxm (by have := HSZ.out; omega) hk.op
    have HC := hid hcall
    have HX := hid hx
    obtain ⟨rfl, hkb, ⟨g1, g2⟩, _, c0, c1, c2, c3, c4, c5, c6, c7⟩ := hk
    have gw : IntKind.i64.wrap ((j : Int) + 1) = ((j + 1 : Nat) : Int) := by rw [IntKind.wrap_i64]; omega
    clear hcall hx hxm HSX HSE
    go_wp2_with fail
    with_reducible refine HC.out.mono ?_
    rintro e2 w2 ⟨rfl, hb2⟩
    have HB3 : Hid (Below w1.heap.size w1 w2) := HB2.out.trans (hb2.mono HB2.out.size)
    clear hb2
    cases hh : Ex.has q x with
    | true =>
     have hh2 : Ex.has q e = true := (Ex.has_iff q e).2 (.inr ⟨x, List.mem_of_getElem? HX.out, hh⟩)
     have HH2 := hid hh2
     clear hh2
     go_wp2_with fail
     go_ret
     exact ⟨by rw [HH2.out]; rfl, HB.out.below.trans (HB3.out.mono HB.out.below.size)⟩
    | false =>
     have HH := hid hh
     clear hh
     go_wp2_with fail
     go_roundg (e.kids.length - (j + 1))
     case measure => omega
     case rel =>
      refine ⟨j + 1, by omega, rfl, by go_num, HB3.out, fun y hy => ?_⟩
      rw [List.take_add_one, HX.out] at hy
      simp at hy
      rcases hy with hy | rfl
      ·exact HA.out y hy
      ·exact HH.out
   ·have hje : j = e.kids.length := by omega
    have hh2 : Ex.has q e = false := by
     rw [Bool.eq_false_iff]
     intro h
     rcases (Ex.has_iff q e).1 h with h | ⟨x, hx, h⟩
     ·exact HQ.out h
     ·have := HA.out x (by rw [hje, List.take_length]; exact hx)
      rw [this] at h
      cases h
    have hge : (e.kids.length : Int) ≤ j := by omega
    have HH2 := hid hh2
    clear hh2
    go_wp2_with fail
    go_ret
    exact ⟨by rw [HH2.out]; rfl, HB.out.below.trans (HB2.out.mono HB.out.below.size)⟩
end Ew
end Go.Proofs.YtkplkgdfphbldaaGreat
