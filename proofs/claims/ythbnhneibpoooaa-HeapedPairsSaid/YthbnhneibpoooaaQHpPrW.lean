/- HeapedPairs, walked. -/
import Derived.Test.YthbnhneibpoooaaQMR
import Derived.Test.YthbnhneibpoooaaQMM
import Derived.Deep.DeepCutAuto
set_option linter.unusedVariables false
set_option linter.unusedSimpArgs false
set_option linter.unnecessarySimpa false
namespace Go.Proofs.Ythbnhneibpoooaa
open Go.RowKit
set_option linter.unusedVariables false
set_option linter.unusedSimpArgs false
set_option linter.unnecessarySimpa false
/-- The row of what is wanted, in a block of the law's own. -/
def WRow (w0 : World) (la : Option Addr) (lc : Nat) (dl : List Dt) (LR : List (Nat × Obj)) : Prop :=
  (dl = [] ∧ la = none ∧ lc = 0) ∨ ∃ (g : Nat) (cur : Array Value) (M : List (Dt × Value)), la = some ⟨g, 0, none⟩ ∧ M.map (·.1) = dl ∧ (∀ j, j < (flatD M).length → cur[j]? = (flatD M)[j]?) ∧ (∀ m ∈ M, DtAt w0 (fun _ => True) (m.1.valOf m.2) m.1) ∧ (g, Obj.cells cur 48 (0, 0)) ∈ LR
/-- The state of the law's loop. -/
structure PrSt (w wx : World) (vb wb : Nat) (n : Nat) (T : List Hp.Th) (v : Hp.V) (la : Option Addr) (lc : Nat) (dl : List Dt) (LR : List (Nat × Obj)) : Prop where
  lw : Lw w wx w.heap.size T ((vb, .cells #[.int .i64 v.kind, .int .i64 v.int, .string v.text] 27 (0, 0)) :: (wb, .cells #[.int .i64 5, .int .i64 0, .string ⟨#[]⟩, .slice la dl.length lc] 48 (0, 0)) :: LR)
  row : WRow w la lc dl LR
  chain : Chain T v dl
  pairs : Pairs T
  len : T.length ≤ 2 * n
  dlen : dl.length ≤ n
  small : ∀ d ∈ dl, d.nodes ≤ 4096
/-- What is wanted reads as data. -/
theorem WRow.data {w wx : World} {h : Nat} {T : List Hp.Th} {la : Option Addr} {lc : Nat} {dl : List Dt} {LR L : List (Nat × Obj)} (H : WRow w la lc dl LR) (hw : Lw w wx h T L) (hL : ∀ x ∈ LR, x ∈ L) (k i : Int) (t : ByteArray) : DtAt wx (fun _ => True) (.agg #[.int .i64 k, .int .i64 i, .string t, .slice la dl.length lc]) (.mk k i t dl) := by
  rcases H with ⟨rfl, rfl, rfl⟩ | ⟨g, cur, M, rfl, rfl, hc, hd, hm⟩
  · exact .nil k i t
  · obtain ⟨hg, hlt, _⟩ := hw.find (hL _ hm)
    refine .row k i t g 0 lc _ (fun j => (M[j]?.map (·.2)).getD (.slice none 0 0)) trivial hlt (fun j x hx => ?_) (fun j x hx => ?_)
    · rw [List.getElem?_map] at hx
      obtain ⟨m, hmm, rfl⟩ : ∃ m, M[j]? = some m ∧ m.1 = x := by simpa using hx
      have hj : j < M.length := (List.getElem?_eq_some_iff.1 hmm).1
      have hl := flatD_length M
      obtain ⟨f0, f1, f2, f3⟩ := flatD_at M j m hmm
      rw [Nat.zero_add]
      refine ⟨?_, ?_, ?_, ?_⟩
      · rw [cell_of_row _ _ _ _ _ _ hg, hc _ (by omega)]; exact f0
      · rw [cell_of_row _ _ _ _ _ _ hg, hc _ (by omega)]; exact f1
      · rw [cell_of_row _ _ _ _ _ _ hg, hc _ (by omega)]; exact f2
      · rw [cell_of_row _ _ _ _ _ _ hg, hc _ (by omega), f3, hmm]; rfl
    · rw [List.getElem?_map] at hx
      obtain ⟨m, hmm, rfl⟩ : ∃ m, M[j]? = some m ∧ m.1 = x := by simpa using hx
      rw [hmm]
      exact (hd m (List.mem_of_getElem? hmm)).bel hw.below (Nat.le_refl _)
/-- The source of the append: the row's cells, nil or not. -/
theorem WRow.src {w wx : World} {h : Nat} {T : List Hp.Th} {la : Option Addr} {lc : Nat} {dl : List Dt} {LR L : List (Nat × Obj)} (H : WRow w la lc dl LR) (hw : Lw w wx h T L) (hL : ∀ x ∈ LR, x ∈ L) : ∃ M : List (Dt × Value), M.map (·.1) = dl ∧ (∀ m ∈ M, DtAt w (fun _ => True) (m.1.valOf m.2) m.1) ∧ ((la = none ∧ lc = 0 ∧ flatD M = []) ∨ ∃ ad, la = some ad ∧ ∀ (j : Nat) (u : Value), (flatD M)[j]? = some u → wx.cell? (ad.add j) = some u) := by
  rcases H with ⟨rfl, rfl, rfl⟩ | ⟨g, cur, M, rfl, rfl, hc, hd, hm⟩
  · exact ⟨[], rfl, by simp, .inl ⟨rfl, rfl, rfl⟩⟩
  · obtain ⟨hg, _, _⟩ := hw.find (hL _ hm)
    refine ⟨M, rfl, hd, .inr ⟨_, rfl, fun j u hu => ?_⟩⟩
    have hj := (List.getElem?_eq_some_iff.1 hu).1
    rw [Addr.add_mid, Nat.zero_add, cell_of_row _ _ _ _ _ _ hg, hc j hj]
    exact hu
theorem flatD_one' {w : World} {M : List (Dt × Value)} (h : ∀ m ∈ M, DtAt w (fun _ => True) (m.1.valOf m.2) m.1) : ∀ u ∈ flatD M, u.oneCell' = true := by
  refine flatD_one M fun m hm => ?_
  obtain ⟨a, c, e⟩ := (show DtAt w _ (.agg #[.int .i64 m.1.kind, .int .i64 m.1.int, .string m.1.text, m.2]) m.1 from h m hm).slice
  rw [e]
  rfl
theorem Lw.row4 {w0 w : World} {h : Nat} {T : List Hp.Th} {L : List (Nat × Obj)} (H : Lw w0 w h T L) {n : Nat} (hn : w.heap.size = n) (a b c d : Value) : Lw w0 (w.alloc (.cells #[a, b, c, d] 48)) h T ((n, .cells #[a, b, c, d] 48 (0, 0)) :: L) ∧ (w.alloc (.cells #[a, b, c, d] 48)).ownsRow n 48 4 (.slice (some ⟨n, 0, none⟩) 1 1) 1 [a, b, c, d] := by
  refine ⟨H.new _ hn, ?_⟩
  subst hn
  exact World.ownsRow_lit w #[a, b, c, d] 1 (Nat.le_refl _) (by decide) rfl
theorem own_drew {W : World} {B e size n : Nat} {v : Value} {xs : List Value} (h : W.ownsRow B e size v n xs) : W.drew.ownsRow B e size v n xs := own_same h (fun _ _ => rfl)
theorem pr_next {w wd w8 : World} {vb wb s g cap n : Nat} {T2 : List Hp.Th} {v2 : Hp.V} {la a1 : Option Addr} {lc cc : Nat} {dl : List Dt} {LR : List (Nat × Obj)} {d : Dt} {M : List (Dt × Value)} {o : Obj}
    (H : Lw w wd w.heap.size T2 ((s, o) :: (vb, .cells #[.int .i64 v2.kind, .int .i64 v2.int, .string v2.text] 27 (0, 0)) :: (wb, .cells #[.int .i64 5, .int .i64 0, .string ⟨#[]⟩, .slice la dl.length lc] 48 (0, 0)) :: LR))
    (hd : DtAt w (fun _ => True) (.agg #[.int .i64 d.kind, .int .i64 d.int, .string d.text, .slice a1 d.list.length cc]) d) (hM : M.map (·.1) = dl) (hMd : ∀ m ∈ M, DtAt w (fun _ => True) (m.1.valOf m.2) m.1)
    (hown : w8.ownsRow s 48 4 (.slice (some ⟨g, 0, none⟩) (1 + dl.length) cap) (1 + dl.length) ([.int .i64 d.kind, .int .i64 d.int, .string d.text, .slice a1 d.list.length cc] ++ flatD M)) (hg : wd.grownBy w8 (some s)) (hl : some s = some g ∨ g = wd.heap.size)
    (hc : Chain T2 v2 (d :: dl)) (hp : Pairs T2) (hT : T2.length ≤ 2 * (n + 1)) (hdl : dl.length ≤ n) (hs : ∀ x ∈ d :: dl, x.nodes ≤ 4096) :
    w8.cell? ⟨wb, 3, none⟩ = some (.slice la dl.length lc) ∧ w8.frozen? ⟨wb, 3, none⟩ = false ∧ ∃ LR', PrSt w (w8.setCell ⟨wb, 3, none⟩ (.slice (some ⟨g, 0, none⟩) (1 + dl.length) cap)) vb wb (n + 1) T2 v2 (some ⟨g, 0, none⟩) cap (d :: dl) LR' := by
  obtain ⟨g', c', cur, he, hcs, hcat, hL⟩ := H.appended (v' := .slice (some ⟨g, 0, none⟩) (1 + dl.length) cap) hg (hl.elim (fun e => .inl e.symm) (fun e => .inr (congrArg some e))) hown
  simp at he
  obtain ⟨rfl, rfl⟩ := he
  have hf := (hL.find (List.mem_cons_of_mem _ (List.mem_cons_of_mem _ (List.mem_cons_self ..)))).1
  refine ⟨cell_of_row w8 wb 3 _ _ _ hf, frozen_of_row w8 wb 3 _ _ hf, (g, .cells cur 48 (0, 0)) :: LR, ?_⟩
  have h1 := (hL.front3.set 3 (.slice (some ⟨g, 0, none⟩) (1 + dl.length) cap)).front3
  refine ⟨?_, .inr ⟨g, cur, (d, .slice a1 d.list.length cc) :: M, rfl, by rw [List.map_cons, hM], hcat, ?_, List.mem_cons_self ..⟩, hc, hp, hT, by simp; omega, hs⟩
  · rw [show (d :: dl).length = 1 + dl.length by simp [Nat.add_comm]]
    exact h1
  · intro m hm
    rcases List.mem_cons.1 hm with rfl | hm
    · exact hd
    · exact hMd m hm
set_option maxHeartbeats 40000000 in
set_option maxRecDepth 100000 in
theorem pairs_walk (a : Option Addr) (c : Nat) (l : List Dt) (w : World) (hd : DtAt w (fun _ => True) (.agg #[.int .i64 5, .int .i64 0, .string ⟨#[]⟩, .slice a l.length c]) (.mk 5 0 ⟨#[]⟩ l)) (hf : ∀ d ∈ l, Dt.Fit d) :
    Calls Try.prog 8 #[.slice a l.length c] w fun e w' => e = .returned (.bool true) ∧ Below w.heap.size w w' := by
  obtain ⟨i0, hi, hz0, hz1, hz2⟩ := info_parts infoDatum
  have HI := Lib.hid hi
  have HZ0 := Lib.hid hz0
  have HZ1 := Lib.hid hz1
  have HZ2 := Lib.hid hz2
  have HD := Lib.hid hd
  have HF := Lib.hid hf
  clear hi hz0 hz1 hz2 hd hf
  go_enter Try.func8, Try.ntmps8
  go_wp2_with fail
  with_reducible refine (new_any _).mono ?_
  rintro e w1 ⟨rfl, rfl⟩
  have H1 := Lib.hid (Lw.init (Below.refl w.heap.size w))
  go_wp2_with fail
  with_reducible refine (fixed_any _).mono ?_
  rintro e w2 ⟨rfl, hb2⟩
  have H2 := Lib.hid ((((H1.out.bel hb2).new (.cells #[.int .i64 4, .int .i64 0, .string ⟨#[]⟩] 27) rfl).new (.cells #[.int .i64 5, .int .i64 0, .string ⟨#[]⟩, .slice none 0 0] 48) (s := w2.heap.size + 1) (by simp)).front2)
  have HP0 : Hid (PrSt w ((w2.alloc (.cells #[.int .i64 4, .int .i64 0, .string ⟨#[]⟩] 27)).alloc (.cells #[.int .i64 5, .int .i64 0, .string ⟨#[]⟩, .slice none 0 0] 48)) w2.heap.size (w2.heap.size + 1) 0 [] ⟨4, 0, ⟨#[]⟩⟩ none 0 [] []) := ⟨H2.out, .inl ⟨rfl, rfl, rfl⟩, .nil, ⟨by simp⟩, by simp, by simp, by simp⟩
  clear hb2 H1
  go_wp2_with fail
  go_loopg [6] l.length (fun gk s6 wx => ∃ (n : Nat) (T : List Hp.Th) (v : Hp.V) (la : Option Addr) (lc : Nat) (dl : List Dt) (LR : List (Nat × Obj)), n ≤ l.length ∧ n ≤ 60 ∧ gk = l.length - n ∧ s6 = .int .i64 n ∧ Hid (PrSt w wx w2.heap.size (w2.heap.size + 1) n T v la lc dl LR))
  case atStart => exact ⟨0, [], _, _, _, _, _, Nat.zero_le _, Nat.zero_le _, rfl, rfl, HP0.out⟩
  case round =>
    obtain ⟨n, T, v, la, lc, dl, LR, hn, hn60, rfl, rfl, HS⟩ := hrel
    by_cases hlt : n < l.length ∧ n < 60
    · obtain ⟨hlt, hlt6⟩ := hlt
      obtain ⟨d, hdn⟩ : ∃ d, l[n]? = some d := ⟨_, List.getElem?_eq_getElem hlt⟩
      have HFD := Lib.hid (HF.out d (List.mem_of_getElem? hdn))
      obtain ⟨_, _, hv, h0 | ⟨b, off, ha, hbl, _, hat⟩⟩ := HD.out.inv
      · simp only [Dt.list_mk] at h0
        rw [h0.2.2] at hdn
        simp at hdn
      simp only [Dt.list_mk, Dt.kind_mk, Dt.int_mk, Dt.text_mk] at hv hat
      obtain rfl := (by simpa using hv : a = _ ∧ c = _).1
      obtain rfl := ha
      obtain ⟨lv, c0, c1, c2, c3, hdd⟩ := hat n d hdn
      obtain ⟨ad, cc, rfl⟩ := hdd.slice
      have HCE : Hid (∀ W : World, Below w.heap.size w W → W.cell? ⟨b, off + n * 4, none⟩ = some (.int .i64 d.kind) ∧ W.cell? ⟨b, off + n * 4 + 1, none⟩ = some (.int .i64 d.int) ∧ W.cell? ⟨b, off + n * 4 + 2, none⟩ = some (.string d.text) ∧ W.cell? ⟨b, off + n * 4 + 3, none⟩ = some (.slice ad d.list.length cc) ∧ DtAt W (fun _ => True) (.agg #[.int .i64 d.kind, .int .i64 d.int, .string d.text, .slice ad d.list.length cc]) d) := fun W hb => by
        have hh := hb.block b hbl
        have e : ∀ o, W.cell? ⟨b, o, none⟩ = w.cell? ⟨b, o, none⟩ := fun o => World.cell?_of_block (a := ⟨b, o, none⟩) hh
        rw [e, e, e, e]
        exact ⟨c0, c1, c2, c3, hdd.bel hb (Nat.le_refl _)⟩
      clear hv hat c0 c1 c2 c3 hdd
      have hd1 : decide (n < l.length) = true := decide_eq_true hlt
      have hd2 : decide ((n : Int) < 60) = true := decide_eq_true (by omega)
      obtain ⟨c0, c1, c2, c3, hdd⟩ := HCE.out _ HS.out.lw.below
      have HDD := Lib.hid hdd
      clear hdd
      obtain ⟨⟨r, ok⟩, hr⟩ : ∃ r, constF d = r := ⟨_, rfl⟩
      have HR := Lib.hid hr
      clear hr
      go_wp2_with fail
      with_reducible refine (dconst_any d _ _ HDD.out HFD.out).mono ?_
      rw [HR.out]
      rintro e w3 ⟨rfl, hb3⟩
      have H3 := Lib.hid ((HS.out.lw.bel hb3).new (.cells #[.int .i64 r.kind, .int .i64 r.int, .string r.text] 27) rfl)
      clear hb3 c0 c1 c2 c3
      cases ok with
      | false =>
        go_wp2_with fail
        go_roundg (l.length - (n + 1))
        case measure => omega
        case rel => exact ⟨n + 1, T, v, la, lc, dl, LR, by omega, by omega, rfl, by go_num, ⟨H3.out.tail, HS.out.row, HS.out.chain, HS.out.pairs, by have := HS.out.len; omega, by have := HS.out.dlen; omega, HS.out.small⟩⟩
      | true =>
        obtain ⟨hm, _, hn'⟩ := const_told HR.out
        have HM := Lib.hid (hm T.length)
        have HN := Lib.hid hn'
        clear hm hn'
        have v0 := H3.out.cells (List.mem_cons_of_mem _ (List.mem_cons_self ..)) 0
        have v1 := H3.out.cells (List.mem_cons_of_mem _ (List.mem_cons_self ..)) 1
        have v2 := H3.out.cells (List.mem_cons_of_mem _ (List.mem_cons_self ..)) 2
        simp only [List.getElem?_toArray, List.getElem?_cons_zero, List.getElem?_cons_succ] at v0 v1 v2
        obtain ⟨k, hk⟩ : ∃ k, T.length = k := ⟨_, rfl⟩
        obtain ⟨T1, hT1⟩ : ∃ T1, T ++ [⟨0, [r, v]⟩] = T1 := ⟨_, rfl⟩
        obtain ⟨m, hm⟩ : ∃ m, T1.length = m := ⟨_, rfl⟩
        obtain ⟨T2, hT2⟩ : ∃ T2, T1 ++ [⟨0, [r, v]⟩] = T2 := ⟨_, rfl⟩
        have hkm : m = k + 1 := by rw [← hm, ← hT1]; simp [hk]
        have hT2l : T2.length = k + 2 := by rw [← hT2]; simp [hm, hkm]
        have hk2 : T2[k]? = some ⟨0, [r, v]⟩ := by rw [← hT2, List.getElem?_append_left (by omega), ← hT1, ← hk]; simp
        have hm1 : Hp.may T1.length r = true := may_grow HM.out (by omega)
        have hm2 : Hp.may T1.length v = true := may_grow HS.out.chain.may (by omega)
        have HP1 : Hid (Pairs T1) := by rw [← hT1]; exact HS.out.pairs.add HM.out HS.out.chain.may
        have HP2 : Hid (Pairs T2) := by rw [← hT2]; exact HP1.out.add hm1 hm2
        have HCH : Hid (Chain T2 ⟨8, k, ⟨#[]⟩⟩ (d :: dl)) := .cons k r v d dl hk2 HR.out (by rw [← hT2, ← hT1]; exact HS.out.chain.more.more)
        have HT2 := Lib.hid (⟨hk, hm, hkm, hT2l, hk2, hm1, hm2⟩ : T.length = k ∧ T1.length = m ∧ m = k + 1 ∧ T2.length = k + 2 ∧ T2[k]? = some ⟨0, [r, v]⟩ ∧ Hp.may T1.length r = true ∧ Hp.may T1.length v = true)
        have HNE : Hid (decide ((⟨8, k, ⟨#[]⟩⟩ : Hp.V) = ⟨8, m, ⟨#[]⟩⟩) = false) := by
          refine decide_eq_false ?_
          intro e
          simp at e
          omega
        have hlen : k ≤ 1000 := by have := HS.out.len; omega
        clear hk2 hm1 hm2 hT2l hkm
        go_wp2_with fail
        with_reducible refine (lw_cons (H3.out.new _ rfl) r v ⟨8, k, ⟨#[]⟩⟩ (by omega) HM.out HS.out.chain.may (by rw [hk]) hT1 (s := w3.heap.size + 1) (by simp)).mono ?_
        rintro e w4 ⟨rfl, hL4, hz4⟩
        have H4 := Lib.hid (hL4.tail.new (.cells #[.int .i64 8, .int .i64 k, .string ⟨#[]⟩] 27) rfl)
        clear v0 v1 v2
        have a0 := H4.out.cells (List.mem_cons_of_mem _ (List.mem_cons_self ..)) 0
        have a1 := H4.out.cells (List.mem_cons_of_mem _ (List.mem_cons_self ..)) 1
        have a2 := H4.out.cells (List.mem_cons_of_mem _ (List.mem_cons_self ..)) 2
        have v0 := H4.out.cells (List.mem_cons_of_mem _ (List.mem_cons_of_mem _ (List.mem_cons_self ..))) 0
        have v1 := H4.out.cells (List.mem_cons_of_mem _ (List.mem_cons_of_mem _ (List.mem_cons_self ..))) 1
        have v2 := H4.out.cells (List.mem_cons_of_mem _ (List.mem_cons_of_mem _ (List.mem_cons_self ..))) 2
        simp only [List.getElem?_toArray, List.getElem?_cons_zero, List.getElem?_cons_succ] at a0 a1 a2 v0 v1 v2
        have hs4 : w3.heap.size < w4.heap.size := by simp at hz4; omega
        clear hL4 hz4
        go_wp2_with fail
        with_reducible refine (lw_cons (H4.out.new _ rfl) r v ⟨8, m, ⟨#[]⟩⟩ (by have := HT2.out.2.2.1; omega) HT2.out.2.2.2.2.2.1 HT2.out.2.2.2.2.2.2 (by rw [hm]) hT2 (s := w4.heap.size + 1) (by simp)).mono ?_
        rintro e w5 ⟨rfl, hL5, hz5⟩
        have hs5 : w4.heap.size < w5.heap.size := by simp at hz5; omega
        have H5 := Lib.hid (hL5.tail.new (.cells #[.int .i64 8, .int .i64 m, .string ⟨#[]⟩] 27) rfl)
        clear hL5 hz5 v0 v1 v2 a0 a1 a2
        have a0 := H5.out.cells (List.mem_cons_of_mem _ (List.mem_cons_self ..)) 0
        have a1 := H5.out.cells (List.mem_cons_of_mem _ (List.mem_cons_self ..)) 1
        have a2 := H5.out.cells (List.mem_cons_of_mem _ (List.mem_cons_self ..)) 2
        have b0 := H5.out.cells (List.mem_cons_self ..) 0
        have b1 := H5.out.cells (List.mem_cons_self ..) 1
        have b2 := H5.out.cells (List.mem_cons_self ..) 2
        simp only [List.getElem?_toArray, List.getElem?_cons_zero, List.getElem?_cons_succ] at a0 a1 a2 b0 b1 b2
        go_wp2_with fail
        with_reducible refine (lw_eq (H5.out.new (.cells #[.int .i64 8, .int .i64 k, .string ⟨#[]⟩, .int .i64 8, .int .i64 m, .string ⟨#[]⟩] 27) rfl) ⟨8, k, ⟨#[]⟩⟩ ⟨8, m, ⟨#[]⟩⟩ (may_8 (by have := HT2.out.2.2.2.1; omega)) (may_8 (by have := HT2.out.2.2.2.1; have := HT2.out.2.2.1; omega)) false HNE.out ⟨0, 0, ⟨#[]⟩⟩ rfl (s := w5.heap.size + 1) (by simp)).mono ?_
        rintro e w6 ⟨rfl, hL6, hz6⟩
        have hs6 : w5.heap.size < w6.heap.size := by simp at hz6; omega
        have H6 := Lib.hid (hL6.tail.new (.cells #[.int .i64 0, .int .i64 0, .string ⟨#[]⟩] 27) rfl)
        clear hL6 hz6 a0 a1 a2 b0 b1 b2
        have a0 := H6.out.cells (List.mem_cons_of_mem _ (List.mem_cons_of_mem _ (List.mem_cons_self ..))) 0
        have a1 := H6.out.cells (List.mem_cons_of_mem _ (List.mem_cons_of_mem _ (List.mem_cons_self ..))) 1
        have a2 := H6.out.cells (List.mem_cons_of_mem _ (List.mem_cons_of_mem _ (List.mem_cons_self ..))) 2
        simp only [List.getElem?_toArray, List.getElem?_cons_zero, List.getElem?_cons_succ] at a0 a1 a2
        go_wp2_with fail
        with_reducible refine (lw_cdr (H6.out.new (.cells #[.int .i64 8, .int .i64 k, .string ⟨#[]⟩] 27) rfl) k k rfl (t := ⟨0, [r, v]⟩) HT2.out.2.2.2.2.1 rfl (by simp) v rfl (s := w6.heap.size + 1) (by simp)).mono ?_
        rintro e w7 ⟨rfl, hL7, hz7⟩
        have hs7 : w6.heap.size < w7.heap.size := by simp at hz7; omega
        have H7 := Lib.hid (hL7.tail.new (.cells #[.int .i64 v.kind, .int .i64 v.int, .string v.text] 27) rfl)
        clear hL7 hz7 a0 a1 a2
        have a0 := H7.out.cells (List.mem_cons_of_mem _ (List.mem_cons_of_mem _ (List.mem_cons_of_mem _ (List.mem_cons_self ..)))) 0
        have a1 := H7.out.cells (List.mem_cons_of_mem _ (List.mem_cons_of_mem _ (List.mem_cons_of_mem _ (List.mem_cons_self ..)))) 1
        have a2 := H7.out.cells (List.mem_cons_of_mem _ (List.mem_cons_of_mem _ (List.mem_cons_of_mem _ (List.mem_cons_self ..)))) 2
        have b0 := H7.out.cells (List.mem_cons_of_mem _ (List.mem_cons_self ..)) 0
        have b1 := H7.out.cells (List.mem_cons_of_mem _ (List.mem_cons_self ..)) 1
        have b2 := H7.out.cells (List.mem_cons_of_mem _ (List.mem_cons_self ..)) 2
        have d0 := H7.out.cells (List.mem_cons_self ..) 0
        have d1 := H7.out.cells (List.mem_cons_self ..) 1
        have d2 := H7.out.cells (List.mem_cons_self ..) 2
        have v0 := H7.out.cells (List.mem_cons_of_mem _ (List.mem_cons_of_mem _ (List.mem_cons_of_mem _ (List.mem_cons_of_mem _ (List.mem_cons_of_mem _ (List.mem_cons_self ..)))))) 0
        have v1 := H7.out.cells (List.mem_cons_of_mem _ (List.mem_cons_of_mem _ (List.mem_cons_of_mem _ (List.mem_cons_of_mem _ (List.mem_cons_of_mem _ (List.mem_cons_self ..)))))) 1
        have v2 := H7.out.cells (List.mem_cons_of_mem _ (List.mem_cons_of_mem _ (List.mem_cons_of_mem _ (List.mem_cons_of_mem _ (List.mem_cons_of_mem _ (List.mem_cons_self ..)))))) 2
        simp only [List.getElem?_toArray, List.getElem?_cons_zero, List.getElem?_cons_succ] at a0 a1 a2 b0 b1 b2 d0 d1 d2 v0 v1 v2
        have k0 := frozen_of_row _ _ 0 _ _ (H7.out.find (List.mem_cons_of_mem _ (List.mem_cons_of_mem _ (List.mem_cons_of_mem _ (List.mem_cons_of_mem _ (List.mem_cons_of_mem _ (List.mem_cons_self ..))))))).1
        have k1 := frozen_of_row _ _ 1 _ _ (H7.out.find (List.mem_cons_of_mem _ (List.mem_cons_of_mem _ (List.mem_cons_of_mem _ (List.mem_cons_of_mem _ (List.mem_cons_of_mem _ (List.mem_cons_self ..))))))).1
        have k2 := frozen_of_row _ _ 2 _ _ (H7.out.find (List.mem_cons_of_mem _ (List.mem_cons_of_mem _ (List.mem_cons_of_mem _ (List.mem_cons_of_mem _ (List.mem_cons_of_mem _ (List.mem_cons_self ..))))))).1
        have H8 := Lib.hid (H7.out.tail.tail.tail.tail.tail.set3 (.int .i64 8) (.int .i64 k) (.string ⟨#[]⟩))
        obtain ⟨c0, c1, c2, c3, _⟩ := HCE.out _ H8.out.below
        have q3 := H8.out.cells (List.mem_cons_of_mem _ (List.mem_cons_self ..)) 3
        simp only [List.getElem?_toArray, List.getElem?_cons_zero, List.getElem?_cons_succ] at q3
        have hbs : b < w7.heap.size + 1 := by have := (H7.out.find (List.mem_cons_self ..)).2.2; omega
        have hws : w2.heap.size + 1 < w7.heap.size + 1 := by have := (H6.out.find (List.mem_cons_of_mem _ (List.mem_cons_of_mem _ (List.mem_cons_of_mem _ (List.mem_cons_of_mem _ (List.mem_cons_of_mem _ (List.mem_cons_self ..))))))).2.1; simp at this; omega
        obtain ⟨h9a, hown9a⟩ := H8.out.row4 (n := w7.heap.size + 1) (by simp) (.int .i64 d.kind) (.int .i64 d.int) (.string d.text) (.slice ad d.list.length cc)
        have h9 := h9a.bel (Below.refl _ _).drew
        have hown9 := own_drew hown9a
        have r3 := h9.cells (List.mem_cons_of_mem _ (List.mem_cons_of_mem _ (List.mem_cons_self ..))) 3
        have s3 := h9a.cells (List.mem_cons_of_mem _ (List.mem_cons_of_mem _ (List.mem_cons_self ..))) 3
        simp only [List.getElem?_toArray, List.getElem?_cons_zero, List.getElem?_cons_succ] at r3 s3
        clear h9a hown9a
        obtain ⟨M, hM, hMd, hsrc⟩ := HS.out.row.src h9 (fun x hx => List.mem_cons_of_mem _ (List.mem_cons_of_mem _ (List.mem_cons_of_mem _ hx)))
        have H9 := Lib.hid h9
        have HOW := Lib.hid hown9
        have HM1' := Lib.hid hM
        have HMd := Lib.hid hMd
        have HSR := Lib.hid hsrc
        clear h9 hown9 hM hMd hsrc
        have hml : M.length = dl.length := by rw [← HM1'.out, List.length_map]
        have HFL : Hid ((flatD M).length = dl.length * 4) := by rw [← hml]; exact flatD_length M
        have HF1 := Lib.hid (flatD_one' HMd.out)
        have HB1 : Hid (1 + dl.length ≤ maxLen) := by have := HS.out.dlen; simp only [maxLen]; show _ ≤ _; omega
        have HB2 : Hid ((1 + dl.length) * 56 ≤ 140737488355328) := by have := HS.out.dlen; show _ ≤ _; omega
        have HDW := Lib.hid (HCE.out w (Below.refl _ _)).2.2.2.2
        have HL2 : Hid (T2.length ≤ 2 * (n + 1)) := by have := HS.out.len; have := HT2.out.2.2.2.1; show _ ≤ _; omega
        have HSM : Hid (∀ x ∈ d :: dl, x.nodes ≤ 4096) := fun x hx => by
          rcases List.mem_cons.1 hx with rfl | hx
          · exact HN.out
          · exact HS.out.small x hx
        clear hml
        go_wp2_with fail
        go_region_law (refine step_append_any rfl (.tmp 108) (.tmp 110) 46 rfl (w7.heap.size + 1) 48 i0 _ 4 56 Try.underlying46 HI.out HZ0.out HZ1.out HZ2.out rfl (by decide) (.slice (some ⟨w7.heap.size + 1, 0, none⟩) 1 1) 1 [.int .i64 d.kind, .int .i64 d.int, .string d.text, .slice ad d.list.length cc] (by rfl) HOW.out la dl.length lc (flatD M) (by rfl) HFL.out HSR.out HF1.out (by omega) HB1.out HB2.out (by simp) (w7.heap.size + 1 + 1) (by simp) ?_; intro g cap w8 hown hgr hlies; obtain ⟨e3, f3, LR', hS8⟩ := pr_next (v2 := ⟨8, k, ⟨#[]⟩⟩) H9.out HDW.out HM1'.out HMd.out hown hgr (hlies.imp id (fun e => e.trans (by simp))) HCH.out HP2.out HL2.out HS.out.dlen HSM.out; have HS8 := Lib.hid hS8; clear hown hgr hlies hS8)
        all_goals
          go_wp2_with fail
          go_roundg (l.length - (n + 1))
          case measure => omega
          case rel => exact ⟨n + 1, T2, ⟨8, k, ⟨#[]⟩⟩, _, _, d :: dl, LR', by omega, by omega, rfl, by go_num, HS8.out⟩
    · have hor : decide (n < l.length) = false ∨ (decide (n < l.length) = true ∧ decide ((n : Int) < 60) = false) := by
        simp only [decide_eq_true_eq, decide_eq_false_iff_not]
        omega
      have v0 := HS.out.lw.cells (List.mem_cons_self ..) 0
      have v1 := HS.out.lw.cells (List.mem_cons_self ..) 1
      have v2 := HS.out.lw.cells (List.mem_cons_self ..) 2
      simp only [List.getElem?_toArray, List.getElem?_cons_zero, List.getElem?_cons_succ] at v0 v1 v2
      clear hlt
      rcases hor with h1 | ⟨h1, h2⟩
      all_goals
        go_wp2_with fail
        with_reducible refine (lw_tell HS.out.lw HS.out.pairs.wf v (hp_text HS.out.chain.may)).mono ?_
        rintro e w5 ⟨d5, a5, c5, rfl, hd5, hr5, hL5, hz5, hb5⟩
        have ht := HS.out.chain.tellT (Nat.le_trans HS.out.dlen hn60)
        rw [ht] at hr5
        simp only [Option.getD_some] at hr5
        subst hr5
        rw [ht]
        simp only [Option.isSome_some, Dt.kind_mk, Dt.int_mk, Dt.text_mk, Dt.list_mk] at hd5 ⊢
        have hbB := (Below.refl w5.heap.size w5).alloc (Nat.le_refl _) (.cells #[.int .i64 5, .int .i64 0, .string ⟨#[]⟩, .slice a5 dl.length c5] 48)
        have hshort : Dt.Short (.mk 5 0 ⟨#[]⟩ dl) := .mk _ _ _ _ (by have := HS.out.dlen; omega) fun j x hx => Dt.short_of (by have := HS.out.small x (List.mem_of_getElem? hx); omega)
        have HSM := same_any _ _ _ _ _ hshort hshort ((hd5.mono fun _ _ _ => trivial).bel hbB (Nat.le_refl _)) ((HS.out.row.data hL5 (fun x hx => List.mem_cons_of_mem _ (List.mem_cons_of_mem _ hx)) 5 0 ⟨#[]⟩).bel hbB (Nat.le_refl _))
        rw [Dt.same_refl] at HSM
        have HSM := Lib.hid HSM
        have HL5 := Lib.hid (hL5.bel hbB)
        have q0 := hL5.cells (List.mem_cons_of_mem _ (List.mem_cons_self ..)) 0
        have q1 := hL5.cells (List.mem_cons_of_mem _ (List.mem_cons_self ..)) 1
        have q2 := hL5.cells (List.mem_cons_of_mem _ (List.mem_cons_self ..)) 2
        have q3 := hL5.cells (List.mem_cons_of_mem _ (List.mem_cons_self ..)) 3
        have qs : w2.heap.size + 1 < w5.heap.size := (hL5.find (List.mem_cons_of_mem _ (List.mem_cons_self ..))).2.1
        simp only [List.getElem?_toArray, List.getElem?_cons_zero, List.getElem?_cons_succ] at q0 q1 q2 q3
        clear hd5 hL5 hz5 hb5 hbB ht hshort
        go_wp2_with fail
        with_reducible refine HSM.out.mono ?_
        rintro e w6 ⟨rfl, hb6⟩
        have HB6 := Lib.hid (HL5.out.bel hb6).below
        clear hb6
        go_wp2_with fail
        go_ret
        exact ⟨rfl, HB6.out⟩
end Go.Proofs.Ythbnhneibpoooaa
