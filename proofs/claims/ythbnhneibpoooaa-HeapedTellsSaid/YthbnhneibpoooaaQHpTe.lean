/- HeapedTells: its walk. -/
import Derived.Test.YthbnhneibpoooaaQHpDw
import Derived.Test.YthbnhneibpoooaaQRM
import Derived.Test.YthbnhneibpoooaaQRL
set_option linter.unusedVariables false
set_option linter.unusedSimpArgs false
set_option linter.unnecessarySimpa false
namespace Go.Proofs.Ythbnhneibpoooaa
open Go.RowKit
set_option linter.unusedVariables false
set_option linter.unusedSimpArgs false
set_option linter.unnecessarySimpa false
theorem Hp.wf_call {T : List Hp.Th} (h : Hp.WfT T) (o : Hp.Op) (told : List Hp.V) : Hp.WfT (Hp.callO T o told).2.2 := by
  unfold Hp.callO
  have h2 := Hp.argsO_len o told
  split
  · exact Hp.wf_make h _ _ (by omega)
  · exact Hp.wf_do h _ _ (by omega)
theorem Tw.init1 (v : Hp.V) {w w2 : World} (hb : Below ((w.alloc (.cells #[.slice none 0 0] 65)).alloc (.cells #[.slice none 0 0] 40)).heap.size ((w.alloc (.cells #[.slice none 0 0] 65)).alloc (.cells #[.slice none 0 0] 40)) w2) :
    Tw w (w2.alloc (.cells #[.int .i64 v.kind, .int .i64 v.int, .string v.text] 27)) w.heap.size (w.heap.size + 1) [] [] (.slice (some ⟨w2.heap.size, 0, none⟩) 1 1) [v] [] := by
  have h2 : Below w.heap.size w w2 := (((Below.refl _ _).alloc (Nat.le_refl _) _).alloc (by simp) _).trans (hb.mono (by simp; omega))
  have hs : w.heap.size + 2 ≤ w2.heap.size := by have := hb.size; simp at this; omega
  have hb1 : (w2.alloc (.cells #[.int .i64 v.kind, .int .i64 v.int, .string v.text] 27)).heap[w.heap.size]? = some (.cells #[.slice none 0 0] 65 (0, 0)) := by
    rw [heap_alloc_old _ _ (by omega), hb.block _ (by simp; omega), heap_alloc_old _ _ (by simp)]
    exact heap_alloc_new w _
  have hb2 : (w2.alloc (.cells #[.int .i64 v.kind, .int .i64 v.int, .string v.text] 27)).heap[w.heap.size + 1]? = some (.cells #[.slice none 0 0] 40 (0, 0)) := by
    rw [heap_alloc_old _ _ (by omega), hb.block _ (by simp)]
    exact heap_new (by simp)
  refine ⟨fun b => b = w.heap.size, fun b => b = w.heap.size + 1, ⟨.slice none 0 0, [], ⟨hb1, World.ownsRow_nil _ _ _ _, by simp, by simp [Value.ownBlock], by simp, by simp, by simp, ⟨rfl, by simp [Value.ownBlock], by simp⟩, fun b e => by simp [e]; omega⟩, rfl⟩,
    ⟨.slice none 0 0, [], ⟨hb2, World.ownsRow_nil _ _ _ _, by simp, by simp [Value.ownBlock], by simp, by simp, by simp, ⟨rfl, by simp [Value.ownBlock], by simp⟩, fun b e => by simp [e]; omega⟩, rfl⟩, fun b e => by omega, fun b e => by omega, fun b e => by omega, ?_, fun b e => ?_, h2.alloc (by omega) _, by simp, List.Pairwise.nil⟩
  · exact (lit_own rfl #[.int .i64 v.kind, .int .i64 v.int, .string v.text] 1 (by decide) rfl).mono (by omega)
  · simp [Value.ownBlock] at e
    omega
/-- The law's state. -/
structure TellI (w wx : World) (i : Nat) (T : List Hp.Th) (tv : Value) (told : List Hp.V) : Prop where
  tw : Tw w wx w.heap.size (w.heap.size + 1) T T tv told []
  good : Hp.Good i T
  wf : Hp.WfT T
  text : ∀ v ∈ told, v.text.size ≤ maxLen
  few : told.length ≤ i + 1
  le : i ≤ 60
theorem TellI.row {w wx : World} {i : Nat} {T : List Hp.Th} {tv : Value} {told : List Hp.V} (H : TellI w wx i T tv told) : wx.ownsRow w.heap.size 27 3 tv told.length (Hp.flatV told) := by
  obtain ⟨O1, O2, h⟩ := H.tw
  exact h.row
set_option maxHeartbeats 40000000 in
set_option maxRecDepth 100000 in
theorem tells_walk (l : List Hp.Op) (ov : Value) (v : Hp.V) (w : World) (hos : OSl w ov l) (hok : ∀ o ∈ l, Hp.OpOk o) (hlen : l.length ≤ 9223372036854775807) (hby : ∀ o ∈ l, o.vals.length * 32 ≤ 140737488355328) (hvt : v.text.size ≤ maxLen) :
    Calls Try.prog 4 #[ov, v.val] w fun e w' => e = .returned (.bool true) ∧ Below w.heap.size w w' := by
  obtain ⟨oa, oc, rfl⟩ := hos.get
  have HOK := Lib.hid hok
  have HBY := Lib.hid hby
  obtain ⟨i1, hj, hy0, hy1, hy2⟩ := info_parts infoVal
  have HJ := Lib.hid hj
  have HY0 := Lib.hid hy0
  have HY1 := Lib.hid hy1
  have HY2 := Lib.hid hy2
  have HB0 : Hid (Below w.heap.size w (w.alloc (.cells #[.int .i64 v.kind, .int .i64 v.int, .string v.text] 27))) := (Below.refl _ _).alloc (Nat.le_refl _) _
  have HX0 : Hid ((w.alloc (.cells #[.int .i64 v.kind, .int .i64 v.int, .string v.text] 27)).heap[w.heap.size]? = some (.cells #[.int .i64 v.kind, .int .i64 v.int, .string v.text] 27 (0, 0))) := heap_alloc_new w _
  have HOS := Lib.hid (hos.below HB0.out)
  have HVT := Lib.hid hvt
  clear hos hok hby hj hy0 hy1 hy2 hvt
  unfold Hp.V.val
  go_enter Try.func4, Try.ntmps4
  go_wp2_with fail
  generalize w.alloc (.cells #[.int .i64 v.kind, .int .i64 v.int, .string v.text] 27) = W at *
  with_reducible refine (dnew_any _).mono ?_
  rintro e w1 ⟨rfl, rfl⟩
  go_wp2_with fail
  with_reducible refine (fixed_any _).mono ?_
  rintro e w2 ⟨rfl, hb2⟩
  have HI := Lib.hid (Tw.init1 v hb2)
  have hlt0 : w.heap.size < W.heap.size := (Array.getElem?_eq_some_iff.1 HX0.out).1
  have hx2 : w2.heap[w.heap.size]? = _ := (hb2.block _ (by simp; omega)).trans ((heap_alloc_old _ _ (by simp; omega)).trans ((heap_alloc_old _ _ hlt0).trans HX0.out))
  have x0 := cell_of_row w2 _ 0 _ _ _ hx2
  have x1 := cell_of_row w2 _ 1 _ _ _ hx2
  have x2 := cell_of_row w2 _ 2 _ _ _ hx2
  simp only [List.getElem?_toArray, List.getElem?_cons_zero, List.getElem?_cons_succ] at x0 x1 x2
  clear hb2 hx2
  go_wp2_with fail
  go_loopg [7, 8] l.length (fun gk s7 s8 wx => ∃ (i : Nat) (T : List Hp.Th) (tv : Value) (told : List Hp.V), i ≤ l.length ∧ gk = l.length - i ∧ tv = s7 ∧ s8 = .int .i64 i ∧ Hid (TellI W wx i T tv told))
  case atStart => exact ⟨0, [], _, [v], by omega, rfl, rfl, rfl, ⟨HI.out, ⟨Nat.le_refl _, by simp, by simp⟩, ⟨by simp, by simp, by simp, by simp, by simp⟩, by simpa using HVT.out, by simp, by omega⟩⟩
  case round =>
    obtain ⟨i, T, tv, told, hi, rfl, rfl, rfl, HS⟩ := hrel
    clear HI x0 x1 x2
    by_cases hlt : i < l.length ∧ i < 60
    · obtain ⟨hlt, hlt2⟩ := hlt
      obtain ⟨o, ho⟩ : ∃ o, l[i]? = some o := ⟨_, List.getElem?_eq_getElem hlt⟩
      obtain ⟨ob, oo, va, ga, rfl, hob, d0, d1, d2, d3, hva, hga⟩ := (HOS.out.below HS.out.tw.below).at ho
      have hom := List.mem_of_getElem? ho
      have hi1 : (0 : Int) ≤ i := by omega
      have hi2 : (i : Int) < l.length := by omega
      have hi3 : (i : Int) < 60 := by omega
      have hi4 : decide ((i : Int) < 60) = true := decide_eq_true hi3
      have hgi : IntKind.i64.wrap ((i : Int) + 1) = i + 1 := by rw [IntKind.wrap_i64]; omega
      have HFL := Lib.hid (filled_law o va ga tv told wr (HOK.out o hom) hva hga (VSl.own HS.out.row) (HBY.out o hom) (by have := HS.out.few; have := HS.out.le; omega))
      have HOM := Lib.hid hom
      have HOI := Lib.hid ho
      clear ho hva hga hom
      go_wp2_with fail
      with_reducible refine HFL.out.mono ?_
      rintro e w3 ⟨aa, ac, rfl, hown3, hb3⟩
      have HA3 := Lib.hid (TwA.of HS.out.tw hb3 hown3 (by unfold Hp.fillO; rw [Hp.fillTo_len]))
      have hcap : o.vals.length ≤ ac ∨ o.vals.length = 0 := by
        rcases own_shape hown3 with ⟨_, e, _⟩ | ⟨g, c, e, _, _, h, _⟩
        · exact .inr e
        · cases e
          exact .inl h
      have haa : o.vals.length = 0 ∨ ∃ g, aa = some ⟨g, 0, none⟩ := by
        rcases own_shape hown3 with ⟨_, e, _⟩ | ⟨g, c, e, _, _, h, _⟩
        · exact .inl e
        · cases e
          exact .inr ⟨g, rfl⟩
      have HB3 := Lib.hid (HS.out.tw.below.trans (hb3.mono HS.out.tw.below.size))
      have HFO : Hid ((Hp.fillO o told).length = o.vals.length) := by unfold Hid Hp.fillO; rw [Hp.fillTo_len]
      have hbnd := HBY.out o HOM.out
      obtain ⟨al, hal⟩ : ∃ al, Hp.argsO o told = al := ⟨_, rfl⟩
      have HAL := Lib.hid hal
      clear hb3 hown3 HFL d0 d1 d2 d3 hal
      go_upto_if 46 with fail
      go_cut [9] (fun s9 wx => ∃ ab cb, s9 = .slice ab al.length cb ∧ wx = w3 ∧ Hid (TwA W wx W.heap.size (W.heap.size + 1) T T tv told [] (.slice ab al.length cb) al))
      case first =>
        by_cases h40 : 40 < o.vals.length
        · obtain ⟨g, rfl⟩ : ∃ g, aa = some ⟨g, 0, none⟩ := by
            rcases haa with h | h
            · omega
            · exact h
          have q1 : decide ((40 : Int) < o.vals.length) = true := decide_eq_true (by omega)
          have q0 : (40 : Int) < o.vals.length := by omega
          have q2 : (40 : Int) ≤ ac := by omega
          have q3 : 40 ≤ ac := by omega
          have HT := Lib.hid (HA3.out.take 40 (by rw [HFO.out]; omega))
          have hll : al.length = 40 := by
            rw [← HAL.out]
            unfold Hp.argsO
            rw [List.length_take, HFO.out]
            omega
          have HLL := Lib.hid hll
          clear h40 haa hcap hll
          go_wp2_with fail
          go_meet
          case rel => exact ⟨_, _, by rw [HLL.out], rfl, by rw [HLL.out]; unfold Hp.argsO at HAL; rw [HAL.out] at HT; exact HT⟩
        · have q1 : decide ((40 : Int) < o.vals.length) = false := decide_eq_false (by omega)
          have q0 : ¬ (40 : Int) < o.vals.length := by omega
          have hae : Hp.fillO o told = al := by
            rw [← HAL.out]
            unfold Hp.argsO
            rw [List.take_of_length_le (by rw [HFO.out]; omega)]
          rw [hae] at HA3 HFO
          have HLL : Hid (al.length = o.vals.length) := HFO
          clear h40 haa hcap hae
          go_wp2_with fail
          go_meet
          case rel => exact ⟨_, _, by rw [HLL.out], rfl, by rw [HLL.out]; exact HA3⟩
      case rest =>
        obtain ⟨ab, cb, rfl, rfl, HA⟩ := hcut
        obtain ⟨wq, rfl⟩ : ∃ wq : World, wq = wc := ⟨_, rfl⟩
        clear HA3 haa hcap
        obtain ⟨ob', oo', va', ga', e9, hob', d0, d1, _, _, _, _⟩ := (HOS.out.below HB3.out).at HOI.out
        cases e9
        have hob1 : ob < wq.heap.size + 1 := by omega
        have htl : al.length ≤ 40 := by rw [← HAL.out]; exact Hp.argsO_len o told
        have htx : ∀ v ∈ al, v.text.size ≤ maxLen := by rw [← HAL.out]; exact Hp.argsO_text (HOK.out o HOM.out).text HS.out.text
        have HG := Lib.hid HS.out.good
        have hT60 : T.length ≤ 1000000 := by have := HG.out.len; have := HS.out.le; omega
        have hP : Hp.FewP T := fun t ht => Nat.le_trans (HG.out.few t ht) (by decide)
        obtain ⟨r, er, T', hres⟩ : ∃ r er T', Hp.callO T o told = (r, er, T') := ⟨_, _, _, rfl⟩
        have HGR := Lib.hid (Hp.good_call HG.out o told (HOK.out o HOM.out).text HS.out.text)
        rw [hres] at HGR
        have HR := Lib.hid hres
        have HA5 := Lib.hid (HA.out.new (.cells #[.int .i64 0, .int .i64 0, .string ⟨#[]⟩] 27) rfl)
        have HTX := Lib.hid htx
        have HPP := Lib.hid hP
        clear hres htx hP
        go_upto_if 55 with fail
        go_cut [10] (fun s10 wx => s10 = .int .i64 er ∧ Hid (TwA W wx W.heap.size (W.heap.size + 1) T' T' tv told [(wq.heap.size, .cells #[.int .i64 r.kind, .int .i64 r.int, .string r.text] 27 (0, 0))] (.slice ab al.length cb) al))
        case first =>
          by_cases hp : o.prim = ⟨#[]⟩
          · have hmk : Hp.makeF T o.kind al = (r, er, T') := by
              have := HR.out
              unfold Hp.callO at this
              rw [if_pos hp, HAL.out] at this
              exact this
            have HC1 := Lib.hid (HA5.out.call1 (T := T') 15 #[.pointer (some ⟨W.heap.size, 0, none⟩), .int .i64 o.kind, .slice ab al.length cb] r er (fun O hst hv hf => by
              have := Make_any ⟨hst, hv, by omega, HTX.out⟩ hT60 o.kind
              rw [hmk] at this
              exact this))
            have q1 : o.prim.toList.isEmpty = true := by rw [text_nil.2 hp]; rfl
            have q2 : o.prim.toList = [] := text_nil.2 hp
            have HMK := Lib.hid hmk
            clear hp hmk
            go_wp2_with fail
            any_goals (refine absurd (q1.symm.trans (b := o.prim.toList.isEmpty) (c := false) ?_) (by decide); assumption)
            with_reducible refine HC1.out.mono ?_
            rintro e w4 ⟨rfl, HT4, hz4⟩
            have HA7 := Lib.hid HT4
            have HC2 := Lib.hid (HA7.out.call2 (T := T') 16 #[.pointer (some ⟨W.heap.size + 1, 0, none⟩), .int .i64 o.kind, .slice ab al.length cb] r er (fun O hst hv => by
              have := rmake_any hst o.kind al _ hv (by omega) HTX.out hT60
              rw [HMK.out] at this
              exact this))
            have k0 : w4.cell? ⟨ob, oo + i * 4, none⟩ = some (.string o.prim) := by
              obtain ⟨_, _, _, _, e8, _, c0, c1, _⟩ := (HOS.out.below HT4.tw.below).at HOI.out
              cases e8
              exact c0
            have k1 : w4.cell? ⟨ob, oo + i * 4 + 1, none⟩ = some (.int .i64 o.kind) := by
              obtain ⟨_, _, _, _, e8, _, c0, c1, _⟩ := (HOS.out.below HT4.tw.below).at HOI.out
              cases e8
              exact c1
            have hnA : ob ≠ wq.heap.size := by omega
            have hnA2 : wq.heap.size ≠ ob := by omega
            clear HT4 hz4
            go_wp2_with fail
            with_reducible refine HC2.out.mono ?_
            rintro e w5 ⟨rfl, HT5, hz5⟩
            obtain ⟨s0, s1, s2, g0, g1, g2, hwB⟩ := HT5.tw.zer (List.mem_cons_self ..)
            have HA8 := Lib.hid (HT5.set3 (.int .i64 r.kind) (.int .i64 r.int) (.string r.text))
            clear HT5 hz5 k0 k1
            go_wp2_with fail
            go_meet
            case rel => exact ⟨rfl, HA8⟩
          · have hmk : Hp.doF T o.prim al = (r, er, T') := by
              have := HR.out
              unfold Hp.callO at this
              rw [if_neg hp, HAL.out] at this
              exact this
            have HC1 := Lib.hid (HA5.out.call1 (T := T') 11 #[.pointer (some ⟨W.heap.size, 0, none⟩), .string o.prim, .slice ab al.length cb] r er (fun O hst hv hf => by
              have := hdo_any hst o.prim al _ hv hf (by omega) hT60 HPP.out HTX.out
              rw [hmk] at this
              exact this))
            have q1 : o.prim.toList.isEmpty = false := by rw [List.isEmpty_eq_false_iff]; exact fun e => hp (text_nil.1 e)
            have q2 : ¬ o.prim.toList = [] := fun e => hp (text_nil.1 e)
            have HMK := Lib.hid hmk
            clear hp hmk
            go_wp2_with fail
            any_goals (refine absurd (q1.symm.trans (b := o.prim.toList.isEmpty) (c := true) ?_) (by decide); assumption)
            with_reducible refine HC1.out.mono ?_
            rintro e w4 ⟨rfl, HT4, hz4⟩
            have HA7 := Lib.hid HT4
            have HC2 := Lib.hid (HA7.out.call2 (T := T') 17 #[.pointer (some ⟨W.heap.size + 1, 0, none⟩), .string o.prim, .slice ab al.length cb] r er (fun O hst hv => by
              have := rdo_any _ _ _ o.prim _ al _ hst hv (by omega) HTX.out hT60 HPP.out
              rw [HMK.out] at this
              exact this))
            have k0 : w4.cell? ⟨ob, oo + i * 4, none⟩ = some (.string o.prim) := by
              obtain ⟨_, _, _, _, e8, _, c0, c1, _⟩ := (HOS.out.below HT4.tw.below).at HOI.out
              cases e8
              exact c0
            have k1 : w4.cell? ⟨ob, oo + i * 4 + 1, none⟩ = some (.int .i64 o.kind) := by
              obtain ⟨_, _, _, _, e8, _, c0, c1, _⟩ := (HOS.out.below HT4.tw.below).at HOI.out
              cases e8
              exact c1
            have hnA : ob ≠ wq.heap.size := by omega
            have hnA2 : wq.heap.size ≠ ob := by omega
            clear HT4 hz4
            go_wp2_with fail
            with_reducible refine HC2.out.mono ?_
            rintro e w5 ⟨rfl, HT5, hz5⟩
            obtain ⟨s0, s1, s2, g0, g1, g2, hwB⟩ := HT5.tw.zer (List.mem_cons_self ..)
            have HA8 := Lib.hid (HT5.set3 (.int .i64 r.kind) (.int .i64 r.int) (.string r.text))
            clear HT5 hz5 k0 k1
            go_wp2_with fail
            go_meet
            case rel => exact ⟨rfl, HA8⟩
        case rest =>
          obtain ⟨rfl, HA8⟩ := hcut
          clear HA5 HA
          have HT9 := Lib.hid HA8.out.tw
          obtain ⟨x0, x1, x2, _, _, _, hxA⟩ := HT9.out.zer (b := wq.heap.size) (p := .int .i64 r.kind) (q := .int .i64 r.int) (r := .string r.text) (by simp)
          have HWF : Hid (Hp.WfT T') := by
            have := Hp.wf_call HS.out.wf o told
            rw [HR.out] at this
            exact this
          have hnext : Hid (∀ v ∈ told ++ [r], v.text.size ≤ maxLen) := fun v hv => by
            rcases List.mem_append.1 hv with hv | hv
            · exact HS.out.text v hv
            · rw [List.mem_singleton.1 hv]; exact HGR.out.2
          by_cases h0 : er = 0
          · have q1 : (er == 0) = true := beq_iff_eq.2 h0
            have HROW : Hid (wc.ownsRow W.heap.size 27 3 tv told.length (Hp.flatV told)) := by
              obtain ⟨O1, O2, h⟩ := HT9.out
              exact h.row
            have hfew := HS.out.few
            have hle := HS.out.le
            have HBW := Lib.hid HT9.out.below
            clear h0
            go_wp2_with (at_builtin; refine wpList_append_at (by rfl) (.tmp 96) (.tmp 98) 32 rfl W.heap.size 27 i1 _ 3 32 Try.underlying32 HJ.out HY0.out HY1.out HY2.out rfl (by decide) tv told.length (Hp.flatV told) rfl (HROW.out.alloc _) (some ⟨wc.heap.size, 0, none⟩) 1 1 [.int .i64 r.kind, .int .i64 r.int, .string r.text] rfl rfl (.inr ⟨_, rfl, new_cells _ (heap_alloc_new wc _)⟩) (by simp [Value.oneCell']) (by simp only [maxLen]; omega) (by omega) (by have := HBW.out.size; simp; omega) ?_; intro tv' w9 hown hgr hlies; have HP := Lib.hid (HT9.out.push hown hgr hlies); clear hown hgr hlies)
            go_roundg (l.length - (i + 1))
            case measure => omega
            case rel => exact ⟨i + 1, T', _, told ++ [r], by omega, rfl, rfl, by go_num, ⟨HP.out, HGR.out.1, HWF.out, hnext.out, by rw [List.length_append]; have := HS.out.few; simp; omega, by omega⟩⟩
          · have q1 : (er == 0) = false := beq_eq_false_iff_ne.2 h0
            clear h0
            go_wp2_with fail
            go_roundg (l.length - (i + 1))
            case measure => omega
            case rel => exact ⟨i + 1, T', _, told, by omega, rfl, rfl, by go_num, ⟨HT9.out.tail, HGR.out.1, HWF.out, HS.out.text, by have := HS.out.few; omega, by omega⟩⟩
    · have hor : (decide ((i : Int) < l.length) = false ∧ decide (i < l.length) = false) ∨ ((decide ((i : Int) < l.length) = true ∧ decide (i < l.length) = true) ∧ decide ((i : Int) < 60) = false) := by
        simp only [decide_eq_true_eq, decide_eq_false_iff_not]
        omega
      have HT0 := Lib.hid HS.out.tw
      have HWF := Lib.hid HS.out.wf
      have HTX : Hid (∀ v ∈ told, v.text.size ≤ maxLen) := HS.out.text
      obtain ⟨ta, tc, e⟩ := own_slice HS.out.row
      subst e
      have hfew : told.length ≤ 61 := by have := HS.out.few; have := HS.out.le; omega
      clear hlt HS
      rcases hor with ⟨h1, h1'⟩ | ⟨⟨h1, h1'⟩, h2⟩
      all_goals
        go_wp2_with fail
        go_loopg [12] told.length (fun gk s12 wx => ∃ j : Nat, j ≤ told.length ∧ gk = told.length - j ∧ s12 = .int .i64 j ∧ Hid (Tw W wx W.heap.size (W.heap.size + 1) T T (.slice ta told.length tc) told []))
        case atStart => exact ⟨0, by omega, rfl, rfl, HT0⟩
        case round =>
          obtain ⟨j, hj, rfl, rfl, HT⟩ := hrel
          clear HT0
          obtain ⟨O1, O2, HTO⟩ := HT.out
          have hgj : IntKind.i64.wrap ((j : Int) + 1) = j + 1 := by rw [IntKind.wrap_i64]; omega
          by_cases hjl : j < told.length
          · obtain ⟨t, ht⟩ : ∃ t, told[j]? = some t := ⟨_, List.getElem?_eq_getElem hjl⟩
            have hvs := VSl.own HTO.row
            obtain ⟨tb, tof, rfl, htb, hc⟩ := hvs.at (fun e => by rw [e] at hjl; simp at hjl)
            obtain ⟨c0, c1, c2⟩ := hc j t ht
            have htt := HTX.out t (List.mem_of_getElem? ht)
            have HT1 := Lib.hid (Tell_any t wr HTO.s1 HWF.out htt)
            have HT2 : Hid (∀ w', Below wr.heap.size wr w' → Calls Try.prog 19 #[.pointer (some ⟨W.heap.size + 1, 0, none⟩), t.val] w' (DtOut (Hp.tellT T t) w')) := fun w' hb => RTell_any t w' (HTO.s2.below hb (Nat.le_refl _)) HWF.out htt
            unfold DtOut Hp.V.val at HT1 HT2
            have hj1 : (0 : Int) ≤ j := by omega
            have hj2 : (j : Int) < told.length := by omega
            have q1 : decide ((j : Int) < told.length) = true := decide_eq_true hj2
            have HSH : Hid (Dt.Short ((Hp.tellT T t).getD (.mk 0 0 ⟨#[]⟩ []))) := by
              refine Dt.short_of ?_
              unfold Hp.tellT
              split
              · cases hx : Hp.tellF T 200 t 0 200 with
                | none => simp [Dt.nodes, Dt.nodess]
                | some x =>
                  have := Hp.tellF_fits T 200 t 0 200 x hx
                  simp
                  omega
              · simp [Dt.nodes, Dt.nodess]
            clear hc hvs ht HTO htt
            generalize Hp.tellT T t = rr at *
            go_wp2_with fail
            with_reducible refine HT1.out.mono ?_
            rintro e w4 ⟨d1, a1, e1, rfl, hd1, hb4, ed1⟩
            have HB5 : Hid (Below wr.heap.size wr (w4.alloc (.cells #[.int .i64 d1.kind, .int .i64 d1.int, .string d1.text, .slice a1 d1.list.length e1] 48))) := hb4.alloc hb4.size _
            have k0 := (hb4.cell (p := ⟨tb, tof + j * 3, none⟩) htb).trans c0
            have k1 := (hb4.cell (p := ⟨tb, tof + j * 3 + 1, none⟩) htb).trans c1
            have k2 := (hb4.cell (p := ⟨tb, tof + j * 3 + 2, none⟩) htb).trans c2
            have htb4 : tb < w4.heap.size := Nat.lt_of_lt_of_le htb hb4.size
            have HD1 := Lib.hid hd1
            have HED1 := Lib.hid ed1
            clear hd1 hb4 ed1
            go_wp2_with fail
            with_reducible refine (HT2.out _ HB5.out).mono ?_
            rintro e w6 ⟨d2, a2, e2, rfl, hd2, hb6, ed2⟩
            have ed1 := HED1.out
            have hx6 := (hb6.block w4.heap.size (by simp)).trans (heap_alloc_new w4 (.cells #[.int .i64 d1.kind, .int .i64 d1.int, .string d1.text, .slice a1 d1.list.length e1] 48))
            obtain ⟨x0, x1, x2, x3, y0, y1, y2, y3⟩ := Blk4.of hx6
            have hlt6 : w4.heap.size < w6.heap.size := by have := hb6.size; simp at this; omega
            have HB7 : Hid (Below wr.heap.size wr (w6.alloc (.cells #[.int .i64 d2.kind, .int .i64 d2.int, .string d2.text, .slice a2 d2.list.length e2] 48))) := (HB5.out.trans (hb6.mono HB5.out.size)).alloc (by have := HB5.out.size; have := hb6.size; omega) _
            have hb67 : Below w6.heap.size w6 (w6.alloc (.cells #[.int .i64 d2.kind, .int .i64 d2.int, .string d2.text, .slice a2 d2.list.length e2] 48)) := (Below.refl _ _).alloc (Nat.le_refl _) _
            have hb45 : Below w4.heap.size w4 (w4.alloc (.cells #[.int .i64 d1.kind, .int .i64 d1.int, .string d1.text, .slice a1 d1.list.length e1] 48)) := (Below.refl _ _).alloc (Nat.le_refl _) _
            have hsm := same_any d1 d2 _ _ _ (ed1 ▸ HSH.out) (ed2 ▸ HSH.out) ((((HD1.out.bel hb45 (Nat.le_refl _)).bel hb6 (Nat.le_refl _)).bel hb67 (Nat.le_refl _)).mono fun _ _ _ => trivial) ((hd2.bel hb67 (Nat.le_refl _)).mono fun _ _ _ => trivial)
            rw [show Dt.same d1 d2 = true by rw [ed1, ed2]; exact Dt.same_refl _] at hsm
            have HSM := Lib.hid hsm
            have HT7 := Lib.hid (HT.out.bel HB7.out)
            clear hsm hb67 hb45 hb6 hd2 hx6 ed1 ed2 k0 k1 k2 c0 c1 c2
            cases hok : rr.isSome
            all_goals
              clear hok
              go_wp2_with fail
              with_reducible refine HSM.out.mono ?_
              rintro e w8 ⟨rfl, hb8⟩
              have HT8 := Lib.hid (HT7.out.bel hb8)
              clear hb8
              go_wp2_with fail
              go_roundg (told.length - (j + 1))
              case measure => omega
              case rel => exact ⟨j + 1, by omega, rfl, by go_num, HT8.out⟩
          · have q1 : decide ((j : Int) < told.length) = false := decide_eq_false (by omega)
            have hBE := HB0.out.trans (HT.out.below.mono (Nat.le_of_lt hlt0))
            have HBE := Lib.hid hBE
            clear hBE HTO
            go_wp2_with fail
            go_ret
            exact ⟨rfl, HBE.out⟩
end Go.Proofs.Ythbnhneibpoooaa
