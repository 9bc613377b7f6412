/- The reference's Make. -/
import Derived.Test.YthbnhneibpoooaaQRD
import Derived.Test.YthbnhneibpoooaaQRA
import Derived.Test.YthbnhneibpoooaaQMM
import Derived.Deep.DeepCutAuto
set_option linter.unusedVariables false
set_option linter.unusedSimpArgs false
set_option linter.unnecessarySimpa false
namespace Go.Proofs.Ythbnhneibpoooaa
open Go.RowKit
set_option linter.unusedVariables false
set_option linter.unusedSimpArgs false
/-- While Make looks: the heap, the parts, the result's block. -/
structure RMk (h : Nat) (O : Nat → Prop) (T : List Hp.Th) (av : Value) (l : List Hp.V) (w wx : World) : Prop where
  st : HSt wx 40 h O T
  below : Below w.heap.size w wx
  args : VSl wx av l
  res : wx.heap[w.heap.size]? = some (.cells #[.int .i64 0, .int .i64 0, .string ⟨#[]⟩] 27 (0, 0))
section
variable {h : Nat} {O : Nat → Prop} {T : List Hp.Th} {av : Value} {l : List Hp.V} {w wx wy : World}
theorem RMk.bel (H : RMk h O T av l w wx) (hb : Below wx.heap.size wx wy) : RMk h O T av l w wy :=
  ⟨H.st.below hb (Nat.le_refl _), H.below.trans (hb.mono H.below.size), H.args.below hb (Nat.le_refl _), (hb.block _ (Array.getElem?_eq_some_iff.1 H.res).1).trans H.res⟩
theorem RMk.out (H : RMk h O T av l w wx) : wx.cell? ⟨w.heap.size, 0, none⟩ = some (.int .i64 0) ∧ wx.cell? ⟨w.heap.size, 1, none⟩ = some (.int .i64 0) ∧ wx.cell? ⟨w.heap.size, 2, none⟩ = some (.string ⟨#[]⟩) ∧ wx.frozen? ⟨w.heap.size, 0, none⟩ = false ∧ wx.frozen? ⟨w.heap.size, 1, none⟩ = false ∧ wx.frozen? ⟨w.heap.size, 2, none⟩ = false ∧ w.heap.size < wx.heap.size :=
  ⟨cell_of_row wx _ 0 _ _ _ H.res, cell_of_row wx _ 1 _ _ _ H.res, cell_of_row wx _ 2 _ _ _ H.res, frozen_of_row wx _ 0 _ _ H.res, frozen_of_row wx _ 1 _ _ H.res, frozen_of_row wx _ 2 _ _ H.res, (Array.getElem?_eq_some_iff.1 H.res).1⟩
theorem RMk.say (H : RMk h O T av l w wx) (hlt : ∀ b, O b → b < w.heap.size) (r : Hp.V) (er : Int) :
    (((wx.setCell ⟨w.heap.size, 0, none⟩ (.int .i64 r.kind)).setCell ⟨w.heap.size, 1, none⟩ (.int .i64 r.int)).setCell ⟨w.heap.size, 2, none⟩ (.string r.text)).heap[w.heap.size]? = some (.cells #[.int .i64 r.kind, .int .i64 r.int, .string r.text] 27 (0, 0)) ∧
    DoPost 40 h O r er T w (.returned (.tuple #[.agg #[.int .i64 r.kind, .int .i64 r.int, .string r.text], .int .i64 er])) (((wx.setCell ⟨w.heap.size, 0, none⟩ (.int .i64 r.kind)).setCell ⟨w.heap.size, 1, none⟩ (.int .i64 r.int)).setCell ⟨w.heap.size, 2, none⟩ (.string r.text)) :=
  ⟨three_set _ _ _ _ _ _ _ _ _ H.res, O, rfl, ret_end H.st (Grow.of H.below) (fun e => by have := hlt _ e; omega) (Nat.le_refl _) _ _ _⟩
theorem RMk.arg (H : RMk h O T av l w wx) {k : Nat} {v : Hp.V} (hv : l[k]? = some v) : ∃ b off c, av = .slice (some ⟨b, off, none⟩) l.length c ∧ b < wx.heap.size ∧ wx.cell? ⟨b, off + k * 3, none⟩ = some (.int .i64 v.kind) ∧ wx.cell? ⟨b, off + k * 3 + 1, none⟩ = some (.int .i64 v.int) ∧ wx.cell? ⟨b, off + k * 3 + 2, none⟩ = some (.string v.text) := by
  obtain ⟨a, c, e⟩ := H.args.len
  have h2 := H.args
  subst e
  obtain ⟨b, off, rfl, hb, hc⟩ := h2.at (fun e => by rw [e] at hv; simp at hv)
  exact ⟨b, off, c, rfl, hb, hc k v hv⟩
/-- Behind a call that wrote to the heap. -/
theorem RMk.post {T' : List Hp.Th} {w5 : World} {r : Hp.V} {er : Int} (H : RMk h O T av l w wx) (hlt0 : ∀ b, O b → b < w.heap.size) (hp : ∃ O', HSt w5 40 h O' T' ∧ Grow O O' wx w5) :
    w5.heap[w.heap.size]? = some (.cells #[.int .i64 0, .int .i64 0, .string ⟨#[]⟩] 27 (0, 0)) ∧ w.heap.size < w5.heap.size ∧
    DoPost 40 h O r er T' w (.returned (.tuple #[.agg #[.int .i64 r.kind, .int .i64 r.int, .string r.text], .int .i64 er])) (((w5.setCell ⟨w.heap.size, 0, none⟩ (.int .i64 r.kind)).setCell ⟨w.heap.size, 1, none⟩ (.int .i64 r.int)).setCell ⟨w.heap.size, 2, none⟩ (.string r.text)) := by
  obtain ⟨O', h1, h2⟩ := hp
  have hlt := (Array.getElem?_eq_some_iff.1 H.res).1
  have hn : ¬ O w.heap.size := fun e => by have := hlt0 _ e; omega
  have hn' : ¬ O' w.heap.size := fun e => by
    rcases h2.own _ e with e | e
    · exact hn e
    · omega
  have hG : Grow O O' w w5 := (Grow.of H.below).trans h2
  exact ⟨(h2.block _ hlt hn).trans H.res, Nat.lt_of_lt_of_le hlt h2.size, O', rfl, ret_end h1 hG hn' (Nat.le_refl _) _ _ _⟩
end
namespace Hp
/-- What Make asks of the kind and the number of parts. -/
def headOk (kind : Int) (n : Nat) : Bool := if kind = 0 then decide (n = 2) else if kind = 3 then decide (n = 1) else if kind = 1 ∨ kind = 2 then decide (n ≤ 1000) else decide (kind = 4)
/-- What Make asks of a part. -/
def partOk (N : Nat) (kind : Int) (v : V) : Bool := may N v && (decide (kind ≠ 2) || decide (v.kind = 2))
theorem makeOk_split (T : List Th) (kind : Int) (l : List V) : makeOk T kind l = (headOk kind l.length && l.all (partOk T.length kind)) := by
  have h1 : l.all (partOk T.length kind) = (l.all (may T.length) && l.all fun v => (decide (kind ≠ 2) || decide (v.kind = 2))) := by
    induction l with
    | nil => rfl
    | cons v l ih =>
      simp only [List.all_cons, ih, partOk]
      cases may T.length v <;> cases (decide (kind ≠ 2) || decide (v.kind = 2)) <;> simp
  rw [h1]
  unfold makeOk sizeOk headOk
  by_cases h2 : kind = 2
  · subst h2
    simp
    have e : (l.all fun v => decide (v.kind = 2)) = !(l.any fun v => !decide (v.kind = 2)) := by
      rw [List.not_any_eq_all_not]
      simp
    rw [e]
    cases (l.all (may T.length)) <;> cases decide (l.length ≤ 1000) <;> simp
  · have e : (l.all fun v => (decide (kind ≠ 2) || decide (v.kind = 2))) = true := by
      rw [List.all_eq_true]
      intro v _
      simp [h2]
    rw [e, Bool.and_true]
    rw [Bool.and_comm]
    congr 1
    by_cases h0 : kind = 0
    · simp [h0]
    · by_cases h3 : kind = 3
      · simp [h3]
      · by_cases h1 : kind = 1
        · simp [h1]
        · simp [h0, h1, h2, h3]
end Hp
set_option maxHeartbeats 40000000 in
set_option maxRecDepth 100000 in
theorem rmake_any {w : World} {h : Nat} {O : Nat → Prop} {T : List Hp.Th} (H : HSt w 40 h O T) (kind : Int) (l : List Hp.V) (av : Value) (hv : VSl w av l) (hl : l.length ≤ 1000000) (ht : ∀ v ∈ l, v.text.size ≤ maxLen) (hT : T.length ≤ 1000000) :
    Calls Try.prog 16 #[.pointer (some ⟨h, 0, none⟩), .int .i64 kind, av] w (DoPost 40 h O (Hp.makeF T kind l).1 (Hp.makeF T kind l).2.1 (Hp.makeF T kind l).2.2 w) := by
  have HLT := Lib.hid H.lt
  have HSP := Lib.hid (Hp.makeOk_split T kind l)
  have HB : Hid (RMk h O T av l w (w.alloc (.cells #[.int .i64 0, .int .i64 0, .string ⟨#[]⟩] 27))) := by
    have hb0 : Below w.heap.size w (w.alloc (.cells #[.int .i64 0, .int .i64 0, .string ⟨#[]⟩] 27)) := (Below.refl _ _).alloc (Nat.le_refl _) _
    exact ⟨H.below hb0 (Nat.le_refl _), hb0, hv.below hb0 (Nat.le_refl _), heap_alloc_new w _⟩
  obtain ⟨ap, cp, rfl⟩ := hv.len
  obtain ⟨ok, hok⟩ : ∃ ok, Hp.headOk kind l.length = ok := ⟨_, rfl⟩
  have HOK := Lib.hid hok
  clear H hv hok
  go_enter Try.func16, Try.ntmps16
  go_upto_region 2 with fail
  go_cut [45] (fun s45 wx => s45 = .bool (!ok) ∧ wx = w.alloc (.cells #[.int .i64 0, .int .i64 0, .string ⟨#[]⟩] 27))
  case first =>
    have hcase : (kind < 0) ∨ (4 < kind) ∨ kind = 0 ∨ kind = 1 ∨ kind = 2 ∨ kind = 3 ∨ kind = 4 := by omega
    rcases hcase with hk | hk | rfl | rfl | rfl | rfl | rfl
    · obtain rfl : ok = false := by
        rw [← HOK.out]
        unfold Hp.headOk
        rw [if_neg (by omega), if_neg (by omega), if_neg (by omega)]
        exact decide_eq_false (by omega)
      have q1 : decide (kind < 0) = true := decide_eq_true hk
      clear hk
      go_wp2_with fail
      go_meet
      case rel => exact ⟨rfl, rfl⟩
    · obtain rfl : ok = false := by
        rw [← HOK.out]
        unfold Hp.headOk
        rw [if_neg (by omega), if_neg (by omega), if_neg (by omega)]
        exact decide_eq_false (by omega)
      have q1 : decide (kind < 0) = false := decide_eq_false (by omega)
      have q2 : decide (4 < kind) = true := decide_eq_true hk
      clear hk
      go_wp2_with fail
      go_meet
      case rel => exact ⟨rfl, rfl⟩
    · by_cases hn : l.length = 2
      · obtain rfl : ok = true := by rw [← HOK.out]; unfold Hp.headOk; rw [if_pos rfl]; exact decide_eq_true hn
        have q : (((l.length : Nat) : Int) != 2) = false := by rw [hn]; rfl
        clear hn
        go_wp2_with fail
        go_meet
        case rel => exact ⟨rfl, rfl⟩
      · obtain rfl : ok = false := by rw [← HOK.out]; unfold Hp.headOk; rw [if_pos rfl]; exact decide_eq_false hn
        have q : (((l.length : Nat) : Int) != 2) = true := by rw [bne_iff_ne]; omega
        clear hn
        go_wp2_with fail
        go_meet
        case rel => exact ⟨rfl, rfl⟩
    · by_cases hn : l.length ≤ 1000
      · obtain rfl : ok = true := by rw [← HOK.out]; unfold Hp.headOk; simp [hn]
        have q : decide ((1000 : Int) < l.length) = false := decide_eq_false (by omega)
        clear hn
        go_wp2_with fail
        go_meet
        case rel => exact ⟨rfl, rfl⟩
      · obtain rfl : ok = false := by rw [← HOK.out]; unfold Hp.headOk; simp; omega
        have q : decide ((1000 : Int) < l.length) = true := decide_eq_true (by omega)
        clear hn
        go_wp2_with fail
        go_meet
        case rel => exact ⟨rfl, rfl⟩
    · by_cases hn : l.length ≤ 1000
      · obtain rfl : ok = true := by rw [← HOK.out]; unfold Hp.headOk; simp [hn]
        have q : decide ((1000 : Int) < l.length) = false := decide_eq_false (by omega)
        clear hn
        go_wp2_with fail
        go_meet
        case rel => exact ⟨rfl, rfl⟩
      · obtain rfl : ok = false := by rw [← HOK.out]; unfold Hp.headOk; simp; omega
        have q : decide ((1000 : Int) < l.length) = true := decide_eq_true (by omega)
        clear hn
        go_wp2_with fail
        go_meet
        case rel => exact ⟨rfl, rfl⟩
    · by_cases hn : l.length = 1
      · obtain rfl : ok = true := by rw [← HOK.out]; unfold Hp.headOk; simp [hn]
        have q : (((l.length : Nat) : Int) != 1) = false := by rw [hn]; rfl
        clear hn
        go_wp2_with fail
        go_meet
        case rel => exact ⟨rfl, rfl⟩
      · obtain rfl : ok = false := by rw [← HOK.out]; unfold Hp.headOk; simp [hn]
        have q : (((l.length : Nat) : Int) != 1) = true := by rw [bne_iff_ne]; omega
        clear hn
        go_wp2_with fail
        go_meet
        case rel => exact ⟨rfl, rfl⟩
    · obtain rfl : ok = true := by rw [← HOK.out]; rfl
      go_wp2_with fail
      go_meet
      case rel => exact ⟨rfl, rfl⟩
  case rest =>
    obtain ⟨rfl, rfl⟩ := hcut
    cases ok with
    | false =>
      have HD : Hid (Hp.makeF T kind l = (Hp.none, 1, T)) := by unfold Hid Hp.makeF; rw [HSP.out, HOK.out]; simp
      obtain ⟨r0, r1, r2, f0, f1, f2, hw⟩ := HB.out.out
      go_wp2_with fail
      refine bodyPost_ret (res2 rfl _ _ w.heap.size 27 _ (0, 0) rfl (heap_alloc_new w _) valD valSize) rfl ?_
      rw [HD.out]
      have hb0 : Below w.heap.size w (w.alloc (.cells #[.int .i64 0, .int .i64 0, .string ⟨#[]⟩] 27)) := (Below.refl _ _).alloc (Nat.le_refl _) _
      exact ⟨O, rfl, HB.out.st, Grow.of hb0⟩
    | true =>
      go_wp2_with fail
      go_loopg [9] l.length (fun gk s9 wx => ∃ k : Nat, k ≤ l.length ∧ gk = l.length - k ∧ s9 = .int .i64 k ∧ Hid (∀ (j : Nat) (v : Hp.V), j < k → l[j]? = some v → Hp.partOk T.length kind v = true) ∧ Hid (RMk h O T (.slice ap l.length cp) l w wx))
      case atStart => exact ⟨0, by omega, rfl, rfl, fun j v hj => by omega, HB⟩
      case round =>
        obtain ⟨k, hk, rfl, rfl, HA, HB2⟩ := hrel
        clear HB
        by_cases hlt : k < l.length
        · obtain ⟨v, hv⟩ : ∃ v, l[k]? = some v := ⟨_, List.getElem?_eq_getElem hlt⟩
          obtain ⟨b, off, c2, e2, hb, a0, a1, a2⟩ := HB2.out.arg hv
          cases e2
          have hk1 : (0 : Int) ≤ k := by omega
          have hk2 : (k : Int) < l.length := by omega
          have hgk : IntKind.i64.wrap ((k : Int) + 1) = k + 1 := by rw [IntKind.wrap_i64]; omega
          have HM : Hid (Calls Try.prog 36 #[.pointer (some ⟨h, 0, none⟩), .agg #[.int .i64 v.kind, .int .i64 v.int, .string v.text]] wr fun e w' => e = .returned (.bool (Hp.may T.length v)) ∧ Below wr.heap.size wr w') := by
            obtain ⟨vt, M, HA0, e⟩ := HB2.out.st
            have hc := HA0.c0
            obtain ⟨a, c, rfl⟩ := HA0.shape
            have := rmay_any h M.length c a v (ht v (List.mem_of_getElem? hv)) wr hc HA0.lth
            rw [← e, List.length_map]
            exact this
          have HVK := Lib.hid hv
          clear hv
          obtain ⟨mb, hmb⟩ : ∃ mb, Hp.may T.length v = mb := ⟨_, rfl⟩
          obtain ⟨po, hpo⟩ : ∃ po, Hp.partOk T.length kind v = po := ⟨_, rfl⟩
          have HPO : Hid (po = (mb && (decide (kind ≠ 2) || decide (v.kind = 2)))) := by
            unfold Hid
            rw [← hpo, ← hmb]
            rfl
          rw [hmb] at HM
          have HPK := Lib.hid hpo
          clear hmb hpo
          go_upto_region 7 with fail
          go_cut [70] (fun s70 wx => s70 = .bool (!po) ∧ Hid (RMk h O T (.slice (some ⟨b, off, none⟩) l.length cp) l w wx))
          case first =>
            cases mb with
            | false =>
              obtain rfl : po = false := by rw [HPO.out]; rfl
              go_wp2_with fail
              with_reducible refine HM.out.mono ?_
              rintro e w5 ⟨rfl, hb5⟩
              have HB5 := Lib.hid (HB2.out.bel hb5)
              clear hb5
              go_wp2_with fail
              go_meet
              case rel => exact ⟨rfl, HB5⟩
            | true =>
              by_cases h2 : kind = 2
              · have q2 : (kind == 2) = true := beq_iff_eq.2 h2
                by_cases hvk : v.kind = 2
                · obtain rfl : po = true := by rw [HPO.out]; simp [hvk]
                  have q3 : (v.kind != 2) = false := by rw [hvk]; rfl
                  clear h2 hvk
                  go_wp2_with fail
                  with_reducible refine HM.out.mono ?_
                  rintro e w5 ⟨rfl, hb5⟩
                  have HB5 := Lib.hid (HB2.out.bel hb5)
                  have a5 : w5.cell? ⟨b, off + k * 3, none⟩ = some (.int .i64 v.kind) := (hb5.cell (p := ⟨b, off + k * 3, none⟩) hb).trans a0
                  clear hb5
                  go_wp2_with fail
                  go_meet
                  case rel => exact ⟨rfl, HB5⟩
                · obtain rfl : po = false := by rw [HPO.out]; simp [hvk, h2]
                  have q3 : (v.kind != 2) = true := by rw [bne_iff_ne]; exact hvk
                  clear h2 hvk
                  go_wp2_with fail
                  with_reducible refine HM.out.mono ?_
                  rintro e w5 ⟨rfl, hb5⟩
                  have HB5 := Lib.hid (HB2.out.bel hb5)
                  have a5 : w5.cell? ⟨b, off + k * 3, none⟩ = some (.int .i64 v.kind) := (hb5.cell (p := ⟨b, off + k * 3, none⟩) hb).trans a0
                  clear hb5
                  go_wp2_with fail
                  go_meet
                  case rel => exact ⟨rfl, HB5⟩
              · have q2 : (kind == 2) = false := beq_eq_false_iff_ne.2 h2
                obtain rfl : po = true := by rw [HPO.out]; simp [h2]
                clear h2
                go_wp2_with fail
                with_reducible refine HM.out.mono ?_
                rintro e w5 ⟨rfl, hb5⟩
                have HB5 := Lib.hid (HB2.out.bel hb5)
                clear hb5
                go_wp2_with fail
                go_meet
                case rel => exact ⟨rfl, HB5⟩
          case rest =>
            obtain ⟨rfl, HB4⟩ := hcut
            cases po with
            | true =>
              go_wp2_with fail
              go_roundg (l.length - (k + 1))
              case measure => omega
              case rel => exact ⟨k + 1, by omega, rfl, by go_num, fun j u hj hu => by
                rcases (by omega : j < k ∨ j = k) with h1 | rfl
                · exact HA.out j u h1 hu
                · rw [HVK.out] at hu; cases hu; exact HPK.out, HB4⟩
            | false =>
              have HD : Hid (Hp.makeF T kind l = (Hp.none, 1, T)) := by
                unfold Hid Hp.makeF
                rw [HSP.out]
                have : l.all (Hp.partOk T.length kind) = false := List.all_eq_false.2 ⟨v, List.mem_of_getElem? HVK.out, by rw [HPK.out]; decide⟩
                rw [this]
                simp
              obtain ⟨r0, r1, r2, f0, f1, f2, hw⟩ := HB4.out.out
              go_wp2_with fail
              have E := HB4.out.say HLT.out Hp.none 1
              refine bodyPost_ret (res2 rfl _ _ w.heap.size 27 _ (0, 0) rfl E.1 valD valSize) rfl ?_
              rw [HD.out]
              exact E.2
        · obtain rfl : l.length = k := by omega
          have HAL : Hid (l.all (Hp.partOk T.length kind) = true) := by
            refine List.all_eq_true.2 fun v hv => ?_
            obtain ⟨j, hj, e⟩ := List.getElem_of_mem hv
            exact HA.out j v hj (by rw [List.getElem?_eq_getElem hj, e])
          have HD : Hid (Hp.makeF T kind l = (⟨8, T.length, ⟨#[]⟩⟩, 0, T ++ [⟨kind, l⟩])) := by
            unfold Hid Hp.makeF
            rw [HSP.out, HOK.out, HAL.out]
            rfl
          have HADD : Hid (Calls Try.prog 37 #[.pointer (some ⟨h, 0, none⟩), .int .i64 kind, .slice ap l.length cp] wr (RAddPost 40 h O T ⟨kind, l⟩ wr)) := radd_any h O T kind l _ wr HB2.out.st HB2.out.args hT hl
          unfold RAddPost Hp.V.val at HADD
          dsimp only at HADD
          clear HA
          go_wp2_with fail
          with_reducible refine HADD.out.mono ?_
          rintro e w5 ⟨O5, rfl, h5, g5⟩
          obtain ⟨hz5, hlt5, hpost⟩ := HB2.out.post (r := ⟨8, T.length, ⟨#[]⟩⟩) (er := 0) HLT.out ⟨O5, h5, g5⟩
          have r0 := cell_of_row w5 _ 0 _ _ _ hz5
          have r1 := cell_of_row w5 _ 1 _ _ _ hz5
          have r2 := cell_of_row w5 _ 2 _ _ _ hz5
          simp only [List.getElem?_toArray, List.getElem?_cons_zero, List.getElem?_cons_succ] at r0 r1 r2
          have f0 := frozen_of_row w5 _ 0 _ _ hz5
          have f1 := frozen_of_row w5 _ 1 _ _ hz5
          have f2 := frozen_of_row w5 _ 2 _ _ hz5
          have HZ := Lib.hid hz5
          have HP := Lib.hid hpost
          clear hz5 hpost h5 g5
          go_wp2_with fail
          refine bodyPost_ret (res2 rfl _ _ w.heap.size 27 _ (0, 0) rfl (three_set _ _ _ _ _ _ _ _ _ HZ.out) valD valSize) rfl ?_
          rw [HD.out]
          exact HP.out
end Go.Proofs.Ythbnhneibpoooaa
