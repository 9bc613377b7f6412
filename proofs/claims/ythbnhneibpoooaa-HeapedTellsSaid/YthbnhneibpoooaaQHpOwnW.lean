/- HeapedOwn, walked. -/
import Derived.Test.YthbnhneibpoooaaQMM
import Derived.Deep.RegionHeld3
set_option linter.unusedVariables false
set_option linter.unusedSimpArgs false
set_option linter.unnecessarySimpa false
namespace Go.Proofs.Ythbnhneibpoooaa
open Go.RowKit
set_option linter.unusedVariables false
set_option linter.unusedSimpArgs false
set_option linter.unnecessarySimpa false
theorem infoVal' : (Try.prog.info? 27).map (fun i => (i.zero, i.size, i.bytes)) = some (some (.agg #[.int .i64 0, .int .i64 0, .string ⟨#[]⟩]), 3, 32) := by kernel_rfl
set_option maxHeartbeats 4000000 in
set_option maxRecDepth 100000 in
theorem own_many (av : Value) (l : List Hp.V) (w : World) (hv : VSl w av l) (hlen : 40 < l.length) :
    Calls Try.prog 6 #[av] w fun e w' => e = .returned (.bool true) ∧ Below w.heap.size w w' := by
  obtain ⟨a, c, rfl⟩ := hv.len
  have g1 : decide ((40 : Int) < l.length) = true := decide_eq_true (by omega)
  clear hv hlen
  go_enter Try.func6, Try.ntmps6
  go_wp2_with fail
  with_reducible refine (new_any _).mono ?_
  rintro e w1 ⟨rfl, rfl⟩
  have HB1 := Lib.hid ((Below.refl w.heap.size w).alloc (Nat.le_refl _) (.cells #[.slice none 0 0] 65))
  go_wp2_with fail
  with_reducible refine (fixed_any _).mono ?_
  rintro e w2 ⟨rfl, hb2⟩
  have HB2 := Lib.hid (HB1.out.trans (hb2.mono (by simp)))
  clear hb2
  go_wp2_with fail
  with_reducible refine (fixed_any _).mono ?_
  rintro e w3 ⟨rfl, hb3⟩
  have HB3 := Lib.hid (HB2.out.trans (hb3.mono HB2.out.size))
  clear hb3
  go_wp2_with fail
  go_ret
  exact ⟨rfl, HB3.out⟩
theorem th_cell {w0 w : World} {h : Nat} {T : List Hp.Th} {L : List (Nat × Obj)} (H : Lw w0 w h T L) {b : Nat} {x y : Value} (hx : (b, Obj.cells #[x, y] 54 (0, 0)) ∈ L) : w.cell? ⟨b, 1, none⟩ = some y := H.cells hx 1
theorem own_zero (w : World) (t : TypeId) : (w.alloc (.cells #[] t)).ownsRow w.heap.size t 3 (.slice (some ⟨w.heap.size, 0, none⟩) 0 0) 0 [] :=
  ⟨rfl, .inr ⟨w.heap.size, 0, #[], rfl, Nat.le_refl _, heap_alloc_new w _, Nat.le_refl _, by decide, rfl, rfl⟩⟩
theorem vsl_src {w : World} {a : Option Addr} {n c : Nat} {l : List Hp.V} (h : VSl w (.slice a n c) l) : (a = none ∧ c = 0 ∧ Hp.flatV l = []) ∨ ∃ ad, a = some ad ∧ ∀ (j : Nat) (u : Value), (Hp.flatV l)[j]? = some u → w.cell? (ad.add j) = some u := by
  obtain ⟨a', c', e, h⟩ := h
  cases e
  rcases h with ⟨rfl, rfl, rfl⟩ | h
  · exact .inl ⟨rfl, rfl, rfl⟩
  · exact .inr h
/-- The cells of a row that may be written. -/
theorem Lw.spot {w0 w : World} {h : Nat} {T : List Hp.Th} {L : List (Nat × Obj)} {g : Nat} {cur : Array Value} {t : TypeId} (H : Lw w0 w h T L) (hx : (g, Obj.cells cur t (0, 0)) ∈ L) {i n : Nat} (hi : i < n) (hn : n * 3 ≤ cur.size) :
    ∃ u0 u1 u2, w.cell? ⟨g, i * 3, none⟩ = some u0 ∧ w.cell? ⟨g, i * 3 + 1, none⟩ = some u1 ∧ w.cell? ⟨g, i * 3 + 2, none⟩ = some u2 ∧ w.frozen? ⟨g, i * 3, none⟩ = false ∧ w.frozen? ⟨g, i * 3 + 1, none⟩ = false ∧ w.frozen? ⟨g, i * 3 + 2, none⟩ = false := by
  have hf := (H.find hx).1
  refine ⟨_, _, _, (H.cells hx _).trans (Array.getElem?_eq_getElem (by omega)), (H.cells hx _).trans (Array.getElem?_eq_getElem (by omega)), (H.cells hx _).trans (Array.getElem?_eq_getElem (by omega)), frozen_of_row w _ _ _ _ hf, frozen_of_row w _ _ _ _ hf, frozen_of_row w _ _ _ _ hf⟩
set_option maxHeartbeats 8000000 in
set_option maxRecDepth 100000 in
theorem own_few (av : Value) (l : List Hp.V) (w : World) (hv : VSl w av l) (hlen : l.length ≤ 40) (ht : ∀ x ∈ l, x.text.size ≤ maxLen) :
    Calls Try.prog 6 #[av] w fun e w' => e = .returned (.bool true) ∧ Below w.heap.size w w' := by
  obtain ⟨a, c, rfl⟩ := hv.len
  obtain ⟨i0, hi, hz0, hz1, hz2⟩ := info_parts infoVal'
  have HI := Lib.hid hi
  have HZ0 := Lib.hid hz0
  have HZ1 := Lib.hid hz1
  have HZ2 := Lib.hid hz2
  have g1 : decide ((40 : Int) < l.length) = false := decide_eq_false (by omega)
  have HV := Lib.hid hv
  have HT := Lib.hid ht
  clear hv ht hi hz0 hz1 hz2
  go_enter Try.func6, Try.ntmps6
  go_wp2_with fail
  with_reducible refine (new_any _).mono ?_
  rintro e w1 ⟨rfl, rfl⟩
  have H1 := Lib.hid (Lw.init (Below.refl w.heap.size w))
  go_wp2_with fail
  with_reducible refine (fixed_any _).mono ?_
  rintro e w2 ⟨rfl, hb2⟩
  have H2 := Lib.hid (H1.out.bel hb2)
  clear hb2
  have hsrc := vsl_src ((HV.out.below H2.out.below (Nat.le_refl _)).below (w' := w2.alloc (.cells #[] 27)) ((Below.refl w2.heap.size w2).alloc (Nat.le_refl _) _) (Nat.le_refl _))
  have HS := Lib.hid hsrc
  have H2b := Lib.hid (H2.out.new (.cells #[] 27) rfl)
  clear hsrc
  go_wp2_with (at_builtin; refine wpList_append_at (by rfl) (.tmp 26) (.tmp 27) 32 rfl w2.heap.size 27 i0 _ 3 32 Try.underlying32 HI.out HZ0.out HZ1.out HZ2.out rfl (by decide) (.slice (some ⟨w2.heap.size, 0, none⟩) 0 0) 0 [] rfl ?a2 a l.length c (Hp.flatV l) rfl ?a3 ?a4 ?a5 ?a6 ?a7 ?a9 ?_; (case a2 => exact own_zero w2 _); (case a3 => exact Hp.flatV_length l); (case a4 => exact HS.out); (case a5 => exact Hp.flatV_one l); (case a6 => (simp only [maxLen]; omega)); (case a7 => omega); (case a9 => simp); intro v3 w3 hown hgr hlies; rw [Nat.zero_add, List.nil_append] at hown; have hv3 := Lib.hid (VSl.own hown); obtain ⟨g, c3, cur, rfl, hcs, hcat, hL3⟩ := H2b.out.appended hgr hlies hown; have H3 := Lib.hid hL3; have HCS := Lib.hid hcs; clear hgr hlies hown hL3 hcat hcs)
  cases hok : Hp.makeOk [] 1 l with
  | false =>
    have eF : Hp.makeF [] 1 l = (Hp.none, 1, []) := by unfold Hp.makeF; rw [hok]; rfl
    have hM := lw_make H3.out (by decide) 1 _ l hv3.out (by omega) HT.out
    rw [eF] at hM
    clear eF hok
    with_reducible refine hM.mono ?_
    rintro e w4 ⟨rfl, hL4, hz4⟩
    have H4 := Lib.hid hL4
    clear hL4 hM hz4
    simp only [Hp.none]
    go_wp2_with fail
    with_reducible refine (count_any (H4.out.new _ rfl)).mono ?_
    rintro e w5 ⟨rfl, rfl⟩
    go_wp2_with fail
    go_ret
    exact ⟨by simp, (H4.out.bel ((Below.refl _ _).alloc (Nat.le_refl _) _)).below⟩
  | true =>
    have eF : Hp.makeF [] 1 l = (⟨8, 0, ⟨#[]⟩⟩, 0, [⟨1, l⟩]) := by unfold Hp.makeF; rw [hok]; rfl
    have hM := lw_make H3.out (by decide) 1 _ l hv3.out (by omega) HT.out
    rw [eF] at hM
    clear eF hok
    with_reducible refine hM.mono ?_
    rintro e w4 ⟨rfl, hL4, hz4⟩
    have H4 := Lib.hid ((hL4.new (.cells #[.int .i64 8, .int .i64 0, .string ⟨#[]⟩] 27) rfl).front2)
    have HC3 : Hid (l.length * 3 ≤ cur.size) := by have := HCS.out; rw [Hp.flatV_length] at this; exact this
    clear hL4 hM hz4
    go_wp2_with fail
    go_loopg [7] l.length (fun gk s7 wx => ∃ (i : Nat) (cu : Array Value), i ≤ l.length ∧ gk = l.length - i ∧ s7 = .int .i64 i ∧ Hid (l.length * 3 ≤ cu.size) ∧ Hid (Lw w wx w.heap.size [⟨1, l⟩] [(g, .cells cu 27 (0, 0)), (w4.heap.size, .cells #[.int .i64 8, .int .i64 0, .string ⟨#[]⟩] 27 (0, 0))]))
    case atStart => exact ⟨0, cur, Nat.zero_le _, rfl, rfl, HC3.out, H4.out⟩
    case round =>
      obtain ⟨i, cu, hi, rfl, rfl, HCU, HJ⟩ := hrel
      by_cases hlt : i < l.length
      · have hg2 : (0 : Int) ≤ i := by omega
        have hg3 : (i : Int) < l.length := by omega
        have hgi : IntKind.i64.wrap ((i : Int) + 1) = i + 1 := by rw [IntKind.wrap_i64]; omega
        go_wp2_with fail
        with_reducible refine (num_any _ _).mono ?_
        rintro e w6 ⟨rfl, hb6⟩
        have HJ6 := Lib.hid (HJ.out.bel hb6)
        obtain ⟨u0, u1, u2, c0, c1, c2, f0, f1, f2⟩ := HJ6.out.spot (List.mem_cons_self ..) hlt HCU.out
        clear hb6
        go_wp2_with fail
        go_roundg (l.length - (i + 1))
        case measure => omega
        case rel => exact ⟨i + 1, _, by omega, rfl, by go_num, (by show _ ≤ _; simpa using HCU.out), Lib.hid (((HJ6.out.set _ _).set _ _).set _ _)⟩
      · obtain rfl : l.length = i := by omega
        have p0 := HJ.out.cells (b := w4.heap.size) (cs := #[.int .i64 8, .int .i64 0, .string ⟨#[]⟩]) (t := 27) (by simp) 0
        have p1 := HJ.out.cells (b := w4.heap.size) (cs := #[.int .i64 8, .int .i64 0, .string ⟨#[]⟩]) (t := 27) (by simp) 1
        have p2 := HJ.out.cells (b := w4.heap.size) (cs := #[.int .i64 8, .int .i64 0, .string ⟨#[]⟩]) (t := 27) (by simp) 2
        simp only [List.getElem?_toArray, List.getElem?_cons_zero, List.getElem?_cons_succ] at p0 p1 p2
        go_wp2_with fail
        with_reducible refine (lw_thing HJ.out.tail 0 0 rfl (t := ⟨1, l⟩) rfl (by show l.length ≤ 1000000; omega)).mono ?_
        rintro e w7 ⟨a7, c7, rfl, hv7, hr7⟩
        have HV7 := Lib.hid hv7
        have HR7 := Lib.hid (hr7.new (.cells #[.int .i64 1, .slice a7 l.length c7] 54))
        have hbA := (Below.refl w7.heap.size w7).alloc (Nat.le_refl _) (.cells #[.int .i64 1, .slice a7 l.length c7] 54)
        have HS7 := Lib.hid (samet_any 1 1 _ _ l l _ (hv7.below hbA (Nat.le_refl _)) (HV.out.below hr7.lw.below (Nat.le_refl _) |>.below hbA (Nat.le_refl _)) (by omega) (by omega))
        simp only [decide_true, Bool.and_self] at HS7
        clear hv7 hr7 hbA p0 p1 p2
        dsimp only
        go_wp2_with fail
        with_reducible refine HS7.out.mono ?_
        rintro e w8 ⟨rfl, hb8⟩
        have HR8 := Lib.hid (HR7.out.bel hb8)
        clear hb8
        go_wp2_with fail
        go_loopg [10] l.length (fun gk s10 wx => ∃ (i : Nat), i ≤ l.length ∧ gk = l.length - i ∧ s10 = .int .i64 i ∧ Hid (RowL w wx w.heap.size [⟨1, l⟩] [(w7.heap.size, .cells #[.int .i64 1, .slice a7 l.length c7] 54 (0, 0)), (w4.heap.size, .cells #[.int .i64 8, .int .i64 0, .string ⟨#[]⟩] 27 (0, 0))] a7 l.length))
        case atStart => exact ⟨0, Nat.zero_le _, rfl, rfl, HR8.out⟩
        case round =>
          obtain ⟨i, hi, rfl, rfl, HJ⟩ := hrel
          have t0 := HJ.out.lw.cells (b := w7.heap.size) (cs := #[.int .i64 1, .slice a7 l.length c7]) (t := 54) (by simp) 0
          have t1 := HJ.out.lw.cells (b := w7.heap.size) (cs := #[.int .i64 1, .slice a7 l.length c7]) (t := 54) (by simp) 1
          have htl := (HJ.out.lw.find (b := w7.heap.size) (o := .cells #[.int .i64 1, .slice a7 l.length c7] 54 (0, 0)) (by simp)).2.1
          simp only [List.getElem?_toArray, List.getElem?_cons_zero, List.getElem?_cons_succ] at t0 t1
          by_cases hlt : i < l.length
          · have hg2 : (0 : Int) ≤ i := by omega
            have hg3 : (i : Int) < l.length := by omega
            have hgi : IntKind.i64.wrap ((i : Int) + 1) = i + 1 := by rw [IntKind.wrap_i64]; omega
            rcases HJ.out with ⟨e, _⟩ | ⟨gt, cu, rfl, hcu, hLJ⟩
            · omega
            have HCU := Lib.hid hcu
            have HLJ := Lib.hid hLJ
            have HLD := Lib.hid (hLJ.bel (Below.refl _ _).drew)
            clear hcu hLJ
            go_wp2_with fail
            go_region_held3 (fun w' => w'.cell? ⟨w7.heap.size, 1, none⟩ = some (.slice (some ⟨gt, 0, none⟩) l.length c7))
              (first | with_reducible exact th_cell HLD.out (List.mem_cons_of_mem _ (List.mem_cons_self ..)) | with_reducible exact th_cell HL9.out (List.mem_cons_of_mem _ (List.mem_cons_self ..)) | with_reducible exact th_cell (((HL9.out.set _ _).set _ _).set _ _) (List.mem_cons_of_mem _ (List.mem_cons_self ..)) | fail)
              (first
                | (go_at_call 12; (with_reducible refine (num_any _ _).mono ?_); rintro e x1 ⟨rfl, hb⟩; have HL9 := Lib.hid (HLD.out.bel hb); obtain ⟨u0, u1, u2, c0, c1, c2, f0, f1, f2⟩ := HL9.out.spot (List.mem_cons_self ..) hlt HCU.out; clear hb)
                | fail)
            all_goals go_wp2_with fail
            all_goals
              go_roundg (l.length - (i + 1))
              case measure => omega
              case rel => exact ⟨i + 1, by omega, rfl, by go_num, .inr ⟨gt, _, rfl, by simpa using HCU.out, ((HL9.out.set _ _).set _ _).set _ _⟩⟩
          · obtain rfl : l.length = i := by omega
            have p0 := HJ.out.lw.cells (b := w4.heap.size) (cs := #[.int .i64 8, .int .i64 0, .string ⟨#[]⟩]) (t := 27) (by simp) 0
            have p1 := HJ.out.lw.cells (b := w4.heap.size) (cs := #[.int .i64 8, .int .i64 0, .string ⟨#[]⟩]) (t := 27) (by simp) 1
            have p2 := HJ.out.lw.cells (b := w4.heap.size) (cs := #[.int .i64 8, .int .i64 0, .string ⟨#[]⟩]) (t := 27) (by simp) 2
            simp only [List.getElem?_toArray, List.getElem?_cons_zero, List.getElem?_cons_succ] at p0 p1 p2
            go_wp2_with fail
            with_reducible refine (lw_thing HJ.out.lw 0 0 rfl (t := ⟨1, l⟩) rfl (by show l.length ≤ 1000000; omega)).mono ?_
            rintro e w10 ⟨a10, c10, rfl, hv10, hr10⟩
            have HR10 := Lib.hid (hr10.new (.cells #[.int .i64 1, .slice a10 l.length c10] 54))
            have hbA := (Below.refl w10.heap.size w10).alloc (Nat.le_refl _) (.cells #[.int .i64 1, .slice a10 l.length c10] 54)
            have HS10 := Lib.hid (samet_any 1 1 _ _ l l _ (hv10.below hbA (Nat.le_refl _)) (HV.out.below hr10.lw.below (Nat.le_refl _) |>.below hbA (Nat.le_refl _)) (by omega) (by omega))
            simp only [decide_true, Bool.and_self] at HS10
            clear hv10 hr10 hbA p0 p1 p2
            dsimp only
            go_wp2_with fail
            with_reducible refine HS10.out.mono ?_
            rintro e w11 ⟨rfl, hb11⟩
            have HR11 := Lib.hid (HR10.out.bel hb11)
            clear hb11
            go_wp2_with fail
            go_ret
            exact ⟨by simp, HR11.out.lw.below⟩
end Go.Proofs.Ythbnhneibpoooaa
