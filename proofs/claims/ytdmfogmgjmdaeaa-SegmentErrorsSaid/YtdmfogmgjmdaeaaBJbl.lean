/- The reference's Image. -/
import Derived.Laws.AppendOwn
import Derived.Laws.OwnMore
import Derived.Test.YtdmfogmgjmdaeaaBJak
import Derived.Test.YtdmfogmgjmdaeaaBJaz
import Derived.Test.YtdmfogmgjmdaeaaBJbk
import Derived.Test.YtdmfogmgjmdaeaaBJaj
set_option linter.unusedVariables false
set_option linter.unusedSimpArgs false
set_option linter.unnecessarySimpa false
namespace Go.Proofs.Ytdmfogmgjmdaeaa
open Go.RowKit
set_option linter.unusedVariables false
set_option linter.unusedSimpArgs false
set_option maxRecDepth 100000
namespace Sg
theorem wpList_append_g {P : Program} {w : World} {ops : Array Oper} {rest : List Oper} {o : Oper} {a : Act} {Q : Exit → Act → World → Prop} (hw : Region.wanted o (yielded ops a.tmps) = true) (s x : Operand) (t : TypeId)
    (ho : o.op = .call { callee := .builtin .append, args := #[s, x], argTypes := #[t, t] })
    (base : Nat) (e : TypeId) (i : TypeInfo) (z : Value) (size bytes : Nat) (ht : P.underlying t = some (.slice e)) (hi : P.info? e = some i) (hz : i.zero = some z)
    (hsize : i.size = size) (hby : i.bytes = bytes) (hzs : z.cells.size = size) (hsz : 0 < size)
    (v : Value) (n : Nat) (xs : List Value) (hs : a.eval s = v) (hown : w.ownsRow base e size v n xs)
    (ax : Option Addr) (m c : Nat) (news : List Value) (hx : a.eval x = .slice ax m c) (hl : news.length = m * size)
    (hsrc : (ax = none ∧ c = 0 ∧ news = []) ∨ ∃ ad, ax = some ad ∧ ∀ j u, news[j]? = some u → w.cell? (ad.add j) = some u) (h1 : ∀ u ∈ news, u.oneCell' = true)
    (h63 : n + m ≤ maxLen) (hbytes : (n + m) * bytes ≤ 140737488355328) (hbase : base ≤ w.heap.size)
    (h : ∀ v' w', w'.ownsRow base e size v' (n + m) (xs ++ news) → w.grownBy w' v.ownBlock → wpList P ops Q rest (a.put o.dst v') w') : wpList P ops Q (o :: rest) a w := by
  unfold wpList
  rw [if_pos hw]
  refine .inl ?_
  rcases hsrc with ⟨rfl, rfl, rfl⟩ | ⟨ad, rfl, hn⟩
  · have hm : m = 0 := by
      have h0 : m * size = 0 := by simpa using hl.symm
      rcases Nat.mul_eq_zero.1 h0 with h | h
      · exact h
      · omega
    subst hm
    have hrun := run_append_owned_none (P := P) (w := w) base t o.type e i size ht hi v n xs hown
    have h' := h v w (by simpa using hown) ⟨rfl, rfl, rfl, Nat.le_refl _, fun _ _ _ => rfl⟩
    unfold Oper.wp
    simp [execOp, ho, resolve, invoke, builtin, hs, hx, hrun, Result.andThen]
    exact h'
  · exact wp_append_own w s x t ho base e i z size bytes ht hi hz hsize hby hzs hsz v n xs hs hown ad m c news hx hl hn h1 h63 hbytes hbase fun v' w' h2 h3 _ => h v' w' h2 h3
theorem item_one (x : As.It) : ∀ u ∈ x.cells, u.oneCell' = true := by
  intro u hu
  simp only [As.It.cells, List.mem_cons, List.not_mem_nil, or_false] at hu
  rcases hu with rfl | rfl | rfl | rfl | rfl | rfl | rfl | rfl <;> rfl
theorem flat_one (l : List As.It) : ∀ u ∈ As.flat l, u.oneCell' = true := by
  intro u hu
  obtain ⟨x, _, hx⟩ := List.mem_flatMap.1 hu
  exact item_one x u hx
theorem isl_src {w : World} {al : Option Addr} {n cl : Nat} {l : List As.It} (h : ISl w (.slice al n cl) l) (hn : al = none → cl = 0 ∧ l = []) : (al = none ∧ cl = 0 ∧ As.flat l = []) ∨ ∃ ad, al = some ad ∧ ∀ j u, (As.flat l)[j]? = some u → w.cell? (ad.add j) = some u := by
  cases al with
  | none => obtain ⟨h1, h2⟩ := hn rfl; exact .inl ⟨rfl, h1, by rw [h2]; rfl⟩
  | some ad =>
    refine .inr ⟨ad, rfl, fun j u hu => ?_⟩
    have hne : l ≠ [] := by intro e; rw [e] at hu; simp [As.flat] at hu
    obtain ⟨b, off, e, hb, hat⟩ := h.at hne
    injection e with e
    subst e
    have hjl : j < l.length * 8 := by have := (List.getElem?_eq_some_iff.1 hu).1; rw [flat_length] at this; exact this
    obtain ⟨x, hx⟩ : ∃ x, l[j / 8]? = some x := ⟨_, List.getElem?_eq_getElem (by omega)⟩
    obtain ⟨c0, c1, c2, c3, c4, c5, c6, c7⟩ := hat (j / 8) x hx
    have hi : j % 8 < x.cells.length := by show _ < 8; omega
    have hg := flat_get (i := j % 8) (u := x.cells[j % 8]) hx (List.getElem?_eq_getElem hi)
    rw [show j / 8 * 8 + j % 8 = j by omega, hu] at hg
    injection hg with hg
    rw [Go.WideShapes.add_plain, hg]
    have hj : off + j = off + j / 8 * 8 + j % 8 := by omega
    rw [hj]
    have h8 : j % 8 < 8 := by omega
    generalize j % 8 = r at *
    match r, h8 with
    | 0, _ => exact c0
    | 1, _ => exact c1
    | 2, _ => exact c2
    | 3, _ => exact c3
    | 4, _ => exact c4
    | 5, _ => exact c5
    | 6, _ => exact c6
    | 7, _ => exact c7
theorem res2 {fn : Func} {p q : Tmp} {ty : TypeId} (h : fn.results = #[.cell p ty, .tmp q]) (tmps : Array Value) (w : World) (g : Nat) (t : TypeId) (cs : Array Value) (fr : Nat × Nat)
    (hp : tmps.getD p undef = .pointer (some ⟨g, 0, none⟩)) (hg : w.heap[g]? = some (.cells cs t fr)) (hd : ∃ fs, Try.prog.underlying ty = some (.struct fs)) (hi : (Try.prog.info? ty).map (·.size) = some cs.size) :
    (results fn tmps).run Try.prog w = .ok (.tuple #[.agg cs, tmps.getD q undef]) w := by
  obtain ⟨fs, hu⟩ := hd
  have hp' : tmps[p]?.getD undef = .pointer (some ⟨g, 0, none⟩) := by simpa using hp
  simp [results, h, hp', asAddr, run_loadVar_row w g t ty cs fr _ hg hu rfl hi]

open As
def ISrc (w : World) (v : Value) (l : List It) : Prop := ∃ a c, v = .slice a l.length c ∧ ISl w (.slice a l.length c) l ∧ (a = none → c = 0 ∧ l = [])
theorem ISrc.own {w : World} {B : Nat} {v : Value} {l : List It} (h : w.ownsRow B 34 8 v l.length (flat l)) : ISrc w v l := by
  have hs := isl_own h
  rcases own_shape h with ⟨rfl, h0, _⟩ | ⟨g, cap, rfl, _⟩
  · have := List.eq_nil_of_length_eq_zero h0
    subst this
    exact ⟨none, 0, rfl, hs, fun _ => ⟨rfl, rfl⟩⟩
  · exact ⟨_, cap, rfl, hs, fun e => by cases e⟩
theorem ISrc.below {w w' : World} {v : Value} {l : List It} {N : Nat} (h : ISrc w v l) (hb : Below N w w') (hN : w.heap.size ≤ N) : ISrc w' v l := by
  obtain ⟨a, c, e, h, hn⟩ := h
  exact ⟨a, c, e, h.below hb hN, hn⟩
def mem0 (st sz : Nat) (mo : Int) : List Int := (((((List.replicate (33 + st + 2 * sz) (0 : Int)).set 28 (32 + st)).set 29 (32 + st + sz)).set 30 (32 + st + sz)).set 31 (32 + st + 2 * sz)).set (32 + st + 2 * sz) mo
theorem st_row {w : World} {b i : Nat} {m : List Int} {t : TypeId} (h : w.heap[b]? = some (.cells (i64s m).toArray t (0, 0))) (hi : i < m.length) (x : Int) : (∃ u, w.cell? ⟨b, i, none⟩ = some u) ∧ w.frozen? ⟨b, i, none⟩ = false ∧ b < w.heap.size ∧ (w.setCell ⟨b, i, none⟩ (.int .i64 x)).heap[b]? = some (.cells (i64s (m.set i x)).toArray t (0, 0)) := by
  refine ⟨⟨.int .i64 m[i], ?_⟩, frozen_of_row w b i _ t h, (Array.getElem?_eq_some_iff.1 h).1, ?_⟩
  · rw [cell_of_row w b i _ t _ h]
    simp [i64s, hi]
  · rw [heap_setCell_same w b i _ t _ h]
    simp [i64s]
theorem sl_row {w : World} {b : Nat} {m : List Int} {t : TypeId} (h : w.heap[b]? = some (.cells (i64s m).toArray t (0, 0))) : Sl w (.slice (some ⟨b, 0, none⟩) m.length m.length) (i64s m) := by
  refine ⟨_, m.length, by rw [show (i64s m).length = m.length by simp [i64s]], .inr ⟨_, rfl, fun j u hu => ?_⟩⟩
  rw [Go.WideShapes.add_plain, Nat.zero_add, cell_of_row w b j _ t _ h]
  simpa using hu
theorem own_cap_le {w : World} {B e size n : Nat} {a : Option Addr} {n' c : Nat} {xs : List Value} (h : w.ownsRow B e size (.slice a n' c) n xs) : n ≤ c := by
  rcases own_shape h with ⟨e, h0, _⟩ | ⟨g, cap, e, _, _, h, _⟩
  · omega
  · have := (Value.slice.inj e).2.2
    omega
theorem imD : ∃ fs, Try.prog.underlying 43 = some (.struct fs) := ⟨_, Try.underlying43⟩
theorem imSize : (Try.prog.info? 43).map (·.size) = some 3 := by kernel_rfl
def ImgPost (l : List It) (st sz : Nat) (mo : Int) (w : World) (e : Ending) (w' : World) : Prop :=
  ∃ vc vm, e = .returned (.tuple #[.agg #[vc, vm, .int .i64 ((33 + st + 2 * sz : Nat) : Int)], .bool true]) ∧ Sl w' vc (u32s (As.code l)) ∧ Sl w' vm (i64s (mem0 st sz mo)) ∧ Below w.heap.size w w'
theorem img_put3 {w : World} {b : Nat} {x0 x1 x2 : Value} {t : TypeId} (h : w.heap[b]? = some (.cells #[x0, x1, x2] t (0, 0))) (y0 y1 y2 : Value) : (((w.setCell ⟨b, 0, none⟩ y0).setCell ⟨b, 1, none⟩ y1).setCell ⟨b, 2, none⟩ y2).heap[b]? = some (.cells #[y0, y1, y2] t (0, 0)) := by
  rw [heap_setCell_same _ b 2 _ _ y2 (heap_setCell_same _ b 1 _ _ y1 (heap_setCell_same _ b 0 _ _ y0 h))]
  rfl
theorem img_sl3 {w : World} {b : Nat} {t : TypeId} (h : w.heap[b]? = some (.cells #[.slice none 0 0, .slice none 0 0, .int .i64 0] t (0, 0))) {v : Value} {l : List Int} (hs : Sl w v (u32s l)) (y0 y1 y2 : Value) : Sl (((w.setCell ⟨b, 0, none⟩ y0).setCell ⟨b, 1, none⟩ y1).setCell ⟨b, 2, none⟩ y2) v (u32s l) := by
  obtain ⟨a, cap, hv, h0 | ⟨ad, h1, h2⟩⟩ := hs
  · exact ⟨a, cap, hv, .inl h0⟩
  · refine ⟨a, cap, hv, .inr ⟨ad, h1, fun j u hu => ?_⟩⟩
    have h3 := h2 j u hu
    have hne : b ≠ (ad.add j).block := fun e => by
      obtain ⟨bb, off, sp⟩ := ad
      have hsp : sp = none := by
        have hpos : 0 < (u32s l).length := by have := (List.getElem?_eq_some_iff.1 hu).1; omega
        simpa [Addr.add] using World.cell?_spot (h2 0 _ (List.getElem?_eq_getElem hpos))
      subst hsp
      rw [Go.WideShapes.add_plain] at h3 e
      simp only at e
      subst e
      rw [cell_of_row w b _ _ t _ h] at h3
      obtain ⟨z, _, rfl⟩ := List.mem_map.1 (List.mem_of_getElem? hu)
      generalize off + j = k at h3
      match k, h3 with
      | 0, h3 => cases h3
      | 1, h3 => cases h3
      | 2, h3 => cases h3
      | k + 3, h3 => simp at h3
    rw [World.cell?_setCell_far _ _ _ _ (by exact hne), World.cell?_setCell_far _ _ _ _ (by exact hne), World.cell?_setCell_far _ _ _ _ (by exact hne)]
    exact h3
theorem sl_far3 {w : World} {b : Nat} {v : Value} {xs : List Value} (hs : Sl w v xs) (hne : ∀ c, v.ownBlock = some c → c ≠ b) (y0 y1 y2 : Value) : Sl (((w.setCell ⟨b, 0, none⟩ y0).setCell ⟨b, 1, none⟩ y1).setCell ⟨b, 2, none⟩ y2) v xs := by
  obtain ⟨a, cap, hv, h0 | ⟨ad, h1, h2⟩⟩ := hs
  · exact ⟨a, cap, hv, .inl h0⟩
  · refine ⟨a, cap, hv, .inr ⟨ad, h1, fun j u hu => ?_⟩⟩
    have h3 := h2 j u hu
    have hn : b ≠ (ad.add j).block := fun e => by
      subst hv h1
      obtain ⟨bb, off, sp⟩ := ad
      refine hne bb ?_ ?_
      · rfl
      · simp only [Addr.add] at e
        split at e <;> exact e.symm
    rw [World.cell?_setCell_far _ _ _ _ (by exact hn), World.cell?_setCell_far _ _ _ _ (by exact hn), World.cell?_setCell_far _ _ _ _ (by exact hn)]
    exact h3
set_option maxHeartbeats 16000000 in
theorem rImage_any (v1 v2 v3 : Value) (l1 l2 l3 : List It) (st sz : Nat) (mo : Int) (w : World) (h1 : ISrc w v1 l1) (h2 : ISrc w v2 l2) (h3 : ISrc w v3 l3) (hn : l1.length + l2.length + l3.length ≤ 65536) (he : As.err (l1 ++ l2 ++ l3) = 0) (hq : 33 + st + 2 * sz ≤ 1048576) :
    Calls Try.prog 16 #[v1, v2, v3, .int .i64 (st : Nat), .int .i64 (sz : Nat), .int .i64 mo] w (ImgPost (l1 ++ l2 ++ l3) st sz mo w) := by
  obtain ⟨i0, hi, hz0, hz1, hz2⟩ := info_parts infoItem
  have HI := Lib.hid hi
  have HZ0 := Lib.hid hz0
  have HZ1 := Lib.hid hz1
  have HZ2 := Lib.hid hz2
  have HERR := Lib.hid he
  obtain ⟨a1, c1, rfl, hl1, hn1⟩ := h1
  obtain ⟨a2, c2, rfl, hl2, hn2⟩ := h2
  obtain ⟨a3, c3, rfl, hl3, hn3⟩ := h3
  have HN1 := Lib.hid hn1
  have HN2 := Lib.hid hn2
  have HN3 := Lib.hid hn3
  have HLW1 := Lib.hid hl1
  have HLW2 := Lib.hid hl2
  have HLW3 := Lib.hid hl3
  clear hi hz0 hz1 hz2 he hl1 hl2 hl3 hn1 hn2 hn3
  go_enter Try.func16, Try.ntmps16
  go_upto_region 1 with fail
  have HB0 := Lib.hid ((Below.refl w.heap.size w).alloc (Nat.le_refl _) (.cells #[.slice none 0 0, .slice none 0 0, .int .i64 0] 43))
  have HA := Lib.hid (heap_alloc_new w (.cells #[.slice none 0 0, .slice none 0 0, .int .i64 0] 43))
  have HS : Hid ((w.alloc (.cells #[.slice none 0 0, .slice none 0 0, .int .i64 0] 43)).heap.size = w.heap.size + 1) := by unfold Hid; simp
  generalize w.alloc (.cells #[.slice none 0 0, .slice none 0 0, .int .i64 0] 43) = W at HB0 HA HS ⊢
  have HL1 := Lib.hid (HLW1.out.below ((HB0.out.alloc HB0.out.size (.cells #[] 34))) (Nat.le_refl _))
  have HL2 := Lib.hid (HLW2.out.below HB0.out (Nat.le_refl _))
  have HL3 := Lib.hid (HLW3.out.below HB0.out (Nat.le_refl _))
  go_wp2_with (first
    | (at_builtin; refine wpList_append_g rfl (.tmp 20) (.tmp 21) 29 rfl W.heap.size 34 i0 (.agg #[.int .i64 0, .int .i64 0, .int .i64 0, .int .i64 0, .int .i64 0, .int .i64 0, .int .i64 0, .int .i64 0]) 8 64 Try.underlying29 HI.out HZ0.out HZ1.out HZ2.out rfl (by decide) (.slice (some ⟨W.heap.size, 0, none⟩) 0 0) 0 [] rfl (World.ownsRow_lit W #[] 0 (Nat.le_refl _) (Nat.zero_le _) rfl) a1 l1.length c1 (As.flat l1) rfl (flat_length l1) (isl_src HL1.out HN1.out) (flat_one l1) (by simp only [maxLen]; omega) (by omega) (by simp) ?_; intro v5 w5 ho5 hg5; have HO5 := Lib.hid ho5; have HB5 := Lib.hid (((Below.refl W.heap.size W).alloc (Nat.le_refl _) _).grown hg5 (by simp) (fun q hq => by simp [Value.ownBlock] at hq; omega)); have HM2 := Lib.hid (HL2.out.below HB5.out (Nat.le_refl _)); clear ho5 hg5)
    | (at_builtin; refine wpList_append_g rfl (.tmp 22) (.tmp 23) 29 rfl W.heap.size 34 i0 (.agg #[.int .i64 0, .int .i64 0, .int .i64 0, .int .i64 0, .int .i64 0, .int .i64 0, .int .i64 0, .int .i64 0]) 8 64 Try.underlying29 HI.out HZ0.out HZ1.out HZ2.out rfl (by decide) v5 (0 + l1.length) ([] ++ As.flat l1) rfl HO5.out a2 l2.length c2 (As.flat l2) rfl (flat_length l2) (isl_src HM2.out HN2.out) (flat_one l2) (by simp only [maxLen]; omega) (by omega) HB5.out.size ?_; intro v6 w6 ho6 hg6; have HO6 := Lib.hid ho6; have HB6 := Lib.hid (HB5.out.grown hg6 HB5.out.size (fun q hq => (HO5.out.lt q hq).1)); have HM3 := Lib.hid (HL3.out.below HB6.out (Nat.le_refl _)); clear ho6 hg6)
    | (at_builtin; refine wpList_append_g rfl (.tmp 24) (.tmp 25) 29 rfl W.heap.size 34 i0 (.agg #[.int .i64 0, .int .i64 0, .int .i64 0, .int .i64 0, .int .i64 0, .int .i64 0, .int .i64 0, .int .i64 0]) 8 64 Try.underlying29 HI.out HZ0.out HZ1.out HZ2.out rfl (by decide) v6 (0 + l1.length + l2.length) ([] ++ As.flat l1 ++ As.flat l2) rfl HO6.out a3 l3.length c3 (As.flat l3) rfl (flat_length l3) (isl_src HM3.out HN3.out) (flat_one l3) (by simp only [maxLen]; omega) (by omega) HB6.out.size ?_; intro v7 w7 ho7 hg7; have HO7 := Lib.hid ho7; have HB7 := Lib.hid (HB6.out.grown hg7 HB6.out.size (fun q hq => (HO6.out.lt q hq).1)); clear ho7 hg7)
    | fail)
  have HLL : Hid (ISl w7 v7 (l1 ++ l2 ++ l3)) := by
    unfold Hid
    refine isl_own (B := W.heap.size) ?_
    have h := HO7.out
    rw [List.nil_append, ← flat_append, ← flat_append, Nat.zero_add, ← List.length_append, ← List.length_append] at h
    exact h
  have hcap : ∀ a n c, v7 = .slice a n c → (l1 ++ l2 ++ l3).length ≤ c := fun a n c e => by
    have h := HO7.out
    rw [e] at h
    have := own_cap_le h
    simp only [List.length_append]
    omega
  obtain ⟨a7, c7, hv7, -⟩ := own_form HO7.out
  have hcap7 := hcap _ _ _ hv7
  clear hcap
  subst hv7
  have hlm : 0 + l1.length + l2.length + l3.length = (l1 ++ l2 ++ l3).length := by simp; omega
  rw [hlm] at HLL
  have HASM := rassemble_any a7 c7 (l1 ++ l2 ++ l3) w7 HLL.out hcap7 (by rw [← hlm]; omega)
  rw [← hlm] at HASM
  have HAS := Lib.hid HASM
  clear HASM hlm hcap7
  with_reducible refine HAS.out.mono ?_
  rintro e w8 ⟨hb8, h8⟩
  rw [if_pos HERR.out] at h8
  obtain ⟨vc, vp, rfl, hc8, -⟩ := h8
  obtain ⟨ac, cc, rfl⟩ := hc8.len
  have HBT := Lib.hid ((HB0.out.trans (HB7.out.mono HB0.out.size)).trans (hb8.mono (by have := HB7.out.size; have := HB0.out.size; omega)))
  have HA8 := Lib.hid ((hb8.block w.heap.size (by have := HB7.out.size; have := HS.out; omega)).trans ((HB7.out.block w.heap.size (by have := HS.out; omega)).trans HA.out))
  have HC8 := Lib.hid hc8
  have HS8 : Hid (w.heap.size < w8.heap.size) := by have := HB7.out.size; have := HS.out; have := hb8.size; unfold Hid; omega
  clear hb8 hc8 HAS HLL HO5 HO6 HO7 HM2 HM3 HL1 HL2 HL3 HLW1 HLW2 HLW3 HB5 HB6 HB7 HA HS HB0
  obtain ⟨p, HP⟩ : ∃ p : Nat, Hid (p = 32 + st + 2 * sz) := ⟨_, rfl⟩
  have hp := HP.out
  have q1 : IntKind.i64.wrap (32 + (st : Int)) = 32 + st := by rw [IntKind.wrap_i64]; omega
  have q2 : IntKind.i64.wrap (2 * (sz : Int)) = 2 * sz := by rw [IntKind.wrap_i64]; omega
  have q3 : IntKind.i64.wrap (32 + (st : Int) + 2 * sz) = 32 + (st : Int) + 2 * sz := by rw [IntKind.wrap_i64]; omega
  have q4 : IntKind.i64.wrap (32 + (st : Int) + 2 * sz + 1) = 32 + (st : Int) + 2 * sz + 1 := by rw [IntKind.wrap_i64]; omega
  have q5 : IntKind.i64.wrap (32 + (st : Int) + sz) = 32 + st + sz := by rw [IntKind.wrap_i64]; omega
  obtain ⟨q, HQP⟩ : ∃ q : Nat, Hid (q = p + 1) := ⟨_, rfl⟩
  have hqp := HQP.out
  have hmk := make_ints21 q (by omega)
  rw [show ((q : Nat) : Int) = 32 + (st : Int) + 2 * (sz : Int) + 1 by omega] at hmk
  clear hqp hp
  go_upto_region 4 with fail
  have hp := HP.out
  have hqp := HQP.out
  have HM := Lib.hid (heap_alloc_new w8 (.cells (madeCells #[.int .i64 0] q) 3))
  have HB9 := Lib.hid ((Below.refl w8.heap.size w8).alloc (Nat.le_refl _) (.cells (madeCells #[.int .i64 0] q) 3))
  generalize w8.alloc (.cells (madeCells #[.int .i64 0] q) 3) = w9 at HM HB9 ⊢
  rw [made_one21, show List.replicate q (Value.int .i64 0) = i64s (List.replicate q 0) by simp [i64s]] at HM
  have g28 : (28 : Int) < (q : Int) := by omega
  have g29 : (29 : Int) < (q : Int) := by omega
  have g30 : (30 : Int) < (q : Int) := by omega
  have g31 : (31 : Int) < (q : Int) := by omega
  have gp : 32 + (st : Int) + 2 * sz < (q : Int) := by omega
  have gp0 : (0 : Int) ≤ 32 + (st : Int) + 2 * sz := by omega
  have gpn : (32 + (st : Int) + 2 * sz).toNat = p := by omega
  clear hp hqp
  obtain ⟨⟨u0, cu0⟩, fu0, bu0, hm0⟩ := st_row (i := 28) HM.out (by simp; have hp := HP.out; have hqp := HQP.out; omega) (32 + (st : Int))
  clear HM
  go_upto_region 5 with fail
  have HM := Lib.hid hm0
  have HB20 := Lib.hid (HB9.out.setCell (p := ⟨w8.heap.size, 28, none⟩) (Nat.le_refl _) (.int .i64 (32 + (st : Int))))
  clear hm0 cu0 fu0 bu0
  generalize w9.setCell ⟨w8.heap.size, 28, none⟩ (.int .i64 (32 + (st : Int))) = x0 at HM HB20 ⊢
  obtain ⟨⟨u1, cu1⟩, fu1, bu1, hm1⟩ := st_row (i := 29) HM.out (by simp; have hp := HP.out; have hqp := HQP.out; omega) (32 + (st : Int) + sz)
  clear HM
  go_upto_region 6 with fail
  have HM := Lib.hid hm1
  have HB21 := Lib.hid (HB20.out.setCell (p := ⟨w8.heap.size, 29, none⟩) (Nat.le_refl _) (.int .i64 (32 + (st : Int) + sz)))
  clear hm1 cu1 fu1 bu1
  generalize x0.setCell ⟨w8.heap.size, 29, none⟩ (.int .i64 (32 + (st : Int) + sz)) = x1 at HM HB21 ⊢
  obtain ⟨⟨u2, cu2⟩, fu2, bu2, hm2⟩ := st_row (i := 30) HM.out (by simp; have hp := HP.out; have hqp := HQP.out; omega) (32 + (st : Int) + sz)
  clear HM
  go_upto_region 7 with fail
  have HM := Lib.hid hm2
  have HB22 := Lib.hid (HB21.out.setCell (p := ⟨w8.heap.size, 30, none⟩) (Nat.le_refl _) (.int .i64 (32 + (st : Int) + sz)))
  clear hm2 cu2 fu2 bu2
  generalize x1.setCell ⟨w8.heap.size, 30, none⟩ (.int .i64 (32 + (st : Int) + sz)) = x2 at HM HB22 ⊢
  obtain ⟨⟨u3, cu3⟩, fu3, bu3, hm3⟩ := st_row (i := 31) HM.out (by simp; have hp := HP.out; have hqp := HQP.out; omega) (32 + (st : Int) + 2 * sz)
  clear HM
  go_upto_region 8 with fail
  have HM := Lib.hid hm3
  have HB23 := Lib.hid (HB22.out.setCell (p := ⟨w8.heap.size, 31, none⟩) (Nat.le_refl _) (.int .i64 (32 + (st : Int) + 2 * sz)))
  clear hm3 cu3 fu3 bu3
  generalize x2.setCell ⟨w8.heap.size, 31, none⟩ (.int .i64 (32 + (st : Int) + 2 * sz)) = x3 at HM HB23 ⊢
  obtain ⟨⟨u4, cu4⟩, fu4, bu4, hm4⟩ := st_row (i := p) HM.out (by simp; have hp := HP.out; have hqp := HQP.out; omega) mo
  clear HM
  go_upto_region 9 with fail
  have HM := Lib.hid hm4
  have HB24 := Lib.hid (HB23.out.setCell (p := ⟨w8.heap.size, p, none⟩) (Nat.le_refl _) (.int .i64 mo))
  clear hm4 cu4 fu4 bu4
  generalize x3.setCell ⟨w8.heap.size, p, none⟩ (.int .i64 mo) = x4 at HM HB24 ⊢
  have HAX := Lib.hid ((HB24.out.block w.heap.size HS8.out).trans HA8.out)
  have k0 := cell_of_row _ _ 0 _ _ _ HAX.out
  have k1 := cell_of_row _ _ 1 _ _ _ HAX.out
  have k2 := cell_of_row _ _ 2 _ _ _ HAX.out
  have j0 := frozen_of_row _ _ 0 _ _ HAX.out
  have j1 := frozen_of_row _ _ 1 _ _ HAX.out
  have j2 := frozen_of_row _ _ 2 _ _ HAX.out
  have bx := (Array.getElem?_eq_some_iff.1 HAX.out).1
  go_wp2_with fail
  have HX := img_put3 HAX.out (.slice ac (As.code (l1 ++ l2 ++ l3)).length cc) (.slice (some ⟨w8.heap.size, 0, none⟩) q q) (.int .i64 q)
  simp only [List.append_assoc] at HX
  refine bodyPost_ret (res2 rfl _ _ w.heap.size 43 _ (0, 0) rfl HX imD imSize) rfl ?_
  have hp := HP.out
  have hqp := HQP.out
  have hq2 : 33 + st + 2 * sz = q := by omega
  have hm : mem0 st sz mo = (((((List.replicate q (0 : Int)).set 28 (32 + st)).set 29 (32 + st + sz)).set 30 (32 + st + sz)).set 31 (32 + st + 2 * sz)).set p mo := by unfold mem0; rw [hq2, ← hp]
  have hlen : (mem0 st sz mo).length = q := by rw [hm]; simp
  unfold ImgPost
  simp only [List.append_assoc]
  refine ⟨.slice ac (As.code (l1 ++ (l2 ++ l3))).length cc, .slice (some ⟨w8.heap.size, 0, none⟩) q q, by rw [hq2]; rfl, ?_, ?_, ?_⟩
  · have h := HC8.out.below HB24.out (Nat.le_refl _)
    simp only [List.length_map, List.append_assoc] at h
    exact img_sl3 HAX.out h _ _ _
  · rw [hm]
    have h := sl_row HM.out
    rw [← hm, hlen] at h
    have hne : w8.heap.size ≠ w.heap.size := by have := HS8.out; omega
    rw [hm] at h
    exact sl_far3 h (fun b e => by cases e; exact hne) _ _ _
  · exact (((HBT.out.trans (HB24.out.mono (Nat.le_of_lt HS8.out))).setCell (Nat.le_refl _) _).setCell (Nat.le_refl _) _).setCell (Nat.le_refl _) _
end Sg
end Go.Proofs.Ytdmfogmgjmdaeaa
