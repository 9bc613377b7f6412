/- HeapedDoes: its round's parts. -/
import Derived.Test.YthbnhneibpoooaaQRJ
import Derived.Test.YthbnhneibpoooaaQML
import Derived.Test.YthbnhneibpoooaaQMM
import Derived.Deep.DeepCutAuto
set_option linter.unusedVariables false
set_option linter.unusedSimpArgs false
set_option linter.unnecessarySimpa false
namespace Go.Proofs.Ythbnhneibpoooaa
open Go.RowKit
set_option linter.unusedVariables false
set_option linter.unusedSimpArgs false
set_option linter.unnecessarySimpa false
/-- A call's arguments. -/
def Hp.argsO (o : Hp.Op) (told : List Hp.V) : List Hp.V := (Hp.fillO o told).take 40
/-- What a call does. -/
def Hp.callO (T : List Hp.Th) (o : Hp.Op) (told : List Hp.V) : Hp.V × Int × List Hp.Th := if o.prim = ⟨#[]⟩ then Hp.makeF T o.kind (Hp.argsO o told) else Hp.doF T o.prim (Hp.argsO o told)
theorem Hp.argsO_text {o : Hp.Op} {told : List Hp.V} (ho : ∀ v ∈ o.vals, v.text.size ≤ maxLen) (ht : ∀ v ∈ told, v.text.size ≤ maxLen) : ∀ v ∈ Hp.argsO o told, v.text.size ≤ maxLen := fun v hv => Hp.fillO_text ho ht v (List.mem_of_mem_take hv)
theorem Hp.argsO_len (o : Hp.Op) (told : List Hp.V) : (Hp.argsO o told).length ≤ 40 := by unfold Hp.argsO; rw [List.length_take]; omega
theorem Hp.good_call {n : Nat} {T : List Hp.Th} (h : Hp.Good n T) (o : Hp.Op) (told : List Hp.V) (ho : ∀ v ∈ o.vals, v.text.size ≤ maxLen) (ht : ∀ v ∈ told, v.text.size ≤ maxLen) : Hp.GoodR (n + 1) (Hp.callO T o told) := by
  unfold Hp.callO
  have h2 := Hp.argsO_len o told
  split
  · exact Hp.good_make h _ _ (Hp.argsO_text ho ht) (by omega)
  · exact Hp.good_do h _ _ (Hp.argsO_text ho ht) (by omega)
theorem Tw.init {w w2 : World} (hb : Below ((w.alloc (.cells #[.slice none 0 0] 65)).alloc (.cells #[.slice none 0 0] 40)).heap.size ((w.alloc (.cells #[.slice none 0 0] 65)).alloc (.cells #[.slice none 0 0] 40)) w2) :
    Tw w (w2.alloc (.cells #[] 27)) w.heap.size (w.heap.size + 1) [] [] (.slice (some ⟨w2.heap.size, 0, none⟩) 0 0) [] [] := by
  have h2 : Below w.heap.size w w2 := (((Below.refl _ _).alloc (Nat.le_refl _) _).alloc (by simp) _).trans (hb.mono (by simp; omega))
  have hs : w.heap.size + 2 ≤ w2.heap.size := by have := hb.size; simp at this; omega
  have hb1 : (w2.alloc (.cells #[] 27)).heap[w.heap.size]? = some (.cells #[.slice none 0 0] 65 (0, 0)) := by
    rw [heap_alloc_old _ _ (by omega), hb.block _ (by simp; omega), heap_alloc_old _ _ (by simp)]
    exact heap_alloc_new w _
  have hb2 : (w2.alloc (.cells #[] 27)).heap[w.heap.size + 1]? = some (.cells #[.slice none 0 0] 40 (0, 0)) := by
    rw [heap_alloc_old _ _ (by omega), hb.block _ (by simp)]
    exact heap_new (by simp)
  refine ⟨fun b => b = w.heap.size, fun b => b = w.heap.size + 1, ⟨.slice none 0 0, [], ⟨hb1, World.ownsRow_nil _ _ _ _, by simp, by simp [Value.ownBlock], by simp, by simp, by simp, ⟨rfl, by simp [Value.ownBlock], by simp⟩, fun b e => by simp [e]; omega⟩, rfl⟩,
    ⟨.slice none 0 0, [], ⟨hb2, World.ownsRow_nil _ _ _ _, by simp, by simp [Value.ownBlock], by simp, by simp, by simp, ⟨rfl, by simp [Value.ownBlock], by simp⟩, fun b e => by simp [e]; omega⟩, rfl⟩, fun b e => by omega, fun b e => by omega, fun b e => by omega, ?_, fun b e => ?_, h2.alloc (by omega) _, by simp, List.Pairwise.nil⟩
  · exact (zero_own w2 _).mono (by omega)
  · simp [Value.ownBlock] at e
    omega
/-- Behind filled. -/
theorem TwA.of {w0 w w' : World} {h m : Nat} {T1 T2 : List Hp.Th} {tv : Value} {told : List Hp.V} (H : Tw w0 w h m T1 T2 tv told []) {a : Option Addr} {n c : Nat} {l : List Hp.V} (hb : Below w.heap.size w w') (ho : w'.ownsRow (w.heap.size + 1) 27 3 (.slice a n c) n (Hp.flatV l)) (hn : l.length = n) :
    TwA w0 w' h m T1 T2 tv told [] (.slice a n c) l := by
  obtain ⟨O1, O2, H⟩ := H
  subst hn
  exact ⟨O1, O2, H.bel hb, VSl.own ho, fun b e h1 => by have := H.s1.lt b h1; have := (ho.lt b e).1; omega, fun b e h1 => by have := H.s2.lt b h1; have := (ho.lt b e).1; omega, fun b e => (ho.lt b e).2, by simp⟩
/-- The first of the arguments. -/
theorem TwA.take {w0 w : World} {h m : Nat} {T1 T2 : List Hp.Th} {tv : Value} {told : List Hp.V} {L : List (Nat × Obj)} {a : Option Addr} {n c : Nat} {l : List Hp.V} (H : TwA w0 w h m T1 T2 tv told L (.slice a n c) l) (k : Nat) (hk : k ≤ l.length) : TwA w0 w h m T1 T2 tv told L (.slice a k c) (l.take k) := by
  obtain ⟨O1, O2, H, ⟨a', c', e, h1⟩, h2, h3, h4, h5⟩ := H
  cases e
  have eo : (Value.slice a k c).ownBlock = (Value.slice a l.length c).ownBlock := by cases a <;> rfl
  refine ⟨O1, O2, H, ⟨a, c, by rw [List.length_take, Nat.min_eq_left hk], ?_⟩, fun b e => h2 b (eo ▸ e), fun b e => h3 b (eo ▸ e), fun b e => h4 b (eo ▸ e), fun x hx e => h5 x hx (eo ▸ e)⟩
  rcases h1 with ⟨rfl, rfl, rfl⟩ | ⟨ad, rfl, h1⟩
  · exact .inl ⟨rfl, rfl, by simp⟩
  · refine .inr ⟨ad, rfl, fun j u hu => h1 j u ?_⟩
    rw [← flatV_take, List.getElem?_take] at hu
    split at hu
    · exact hu
    · simp at hu
theorem OSl.get {w : World} {v : Value} {l : List Hp.Op} (h : OSl w v l) : ∃ a cap, v = .slice a l.length cap := by
  obtain ⟨a, cap, e, _⟩ := h
  exact ⟨a, cap, e⟩
theorem OSl.below {w w' : World} {v : Value} {l : List Hp.Op} (h : OSl w v l) (hb : Below w.heap.size w w') : OSl w' v l := by
  obtain ⟨a, cap, e, h⟩ := h
  refine ⟨a, cap, e, fun i o ho => ?_⟩
  obtain ⟨b, off, va, ga, ea, hlt, c0, c1, c2, c3, hv, hg⟩ := h i o ho
  exact ⟨b, off, va, ga, ea, Nat.lt_of_lt_of_le hlt hb.size, (hb.cell (p := ⟨b, off + i * 4, none⟩) hlt).trans c0, (hb.cell (p := ⟨b, off + i * 4 + 1, none⟩) hlt).trans c1, (hb.cell (p := ⟨b, off + i * 4 + 2, none⟩) hlt).trans c2, (hb.cell (p := ⟨b, off + i * 4 + 3, none⟩) hlt).trans c3, hv.below hb (Nat.le_refl _), hg.below hb (Nat.le_refl _)⟩
theorem OSl.at {w : World} {a : Option Addr} {n c : Nat} {l : List Hp.Op} (h : OSl w (.slice a n c) l) {i : Nat} {o : Hp.Op} (ho : l[i]? = some o) : ∃ b off va ga, a = some ⟨b, off, none⟩ ∧ b < w.heap.size ∧ w.cell? ⟨b, off + i * 4, none⟩ = some (.string o.prim) ∧ w.cell? ⟨b, off + i * 4 + 1, none⟩ = some (.int .i64 o.kind) ∧ w.cell? ⟨b, off + i * 4 + 2, none⟩ = some va ∧ w.cell? ⟨b, off + i * 4 + 3, none⟩ = some ga ∧ VSl w va o.vals ∧ Sl w ga (o.ago.map (Value.int .i64)) := by
  obtain ⟨a', cap, e, h⟩ := h
  cases e
  exact h i o ho
theorem dnew_any (w : World) : Calls Try.prog 9 #[] w fun e w' => e = .returned (.pointer (some ⟨w.heap.size, 0, none⟩)) ∧ w' = w.alloc (.cells #[.slice none 0 0] 65) := by
  go_enter Try.func9, Try.ntmps9
  go_wp2_with fail
  go_ret
  exact ⟨rfl, rfl⟩
/-- The law's state: heaps that are alike, and what was told. -/
structure DoesI (w wx : World) (i : Nat) (T : List Hp.Th) (tv : Value) (told : List Hp.V) : Prop where
  tw : Tw w wx w.heap.size (w.heap.size + 1) T T tv told []
  good : Hp.Good i T
  text : ∀ v ∈ told, v.text.size ≤ maxLen
  few : told.length ≤ i
  le : i ≤ 60
theorem DoesI.row {w wx : World} {i : Nat} {T : List Hp.Th} {tv : Value} {told : List Hp.V} (H : DoesI w wx i T tv told) : wx.ownsRow w.heap.size 27 3 tv told.length (Hp.flatV told) := by
  obtain ⟨O1, O2, h⟩ := H.tw
  exact h.row
set_option maxHeartbeats 40000000 in
set_option maxRecDepth 100000 in
theorem does_walk (l : List Hp.Op) (ov : Value) (w : World) (hos : OSl w ov l) (hok : ∀ o ∈ l, Hp.OpOk o) (hlen : l.length ≤ 9223372036854775807) (hby : ∀ o ∈ l, o.vals.length * 32 ≤ 140737488355328) :
    Calls Try.prog 5 #[ov] w fun e w' => e = .returned (.bool true) ∧ Below w.heap.size w w' := by
  obtain ⟨oa, oc, rfl⟩ := hos.get
  have HOS := Lib.hid hos
  have HOK := Lib.hid hok
  have HBY := Lib.hid hby
  obtain ⟨i1, hj, hy0, hy1, hy2⟩ := info_parts infoVal
  have HJ := Lib.hid hj
  have HY0 := Lib.hid hy0
  have HY1 := Lib.hid hy1
  have HY2 := Lib.hid hy2
  clear hos hok hby hj hy0 hy1 hy2
  go_enter Try.func5, Try.ntmps5
  go_wp2_with fail
  with_reducible refine (dnew_any _).mono ?_
  rintro e w1 ⟨rfl, rfl⟩
  go_wp2_with fail
  with_reducible refine (fixed_any _).mono ?_
  rintro e w2 ⟨rfl, hb2⟩
  have HI := Lib.hid (Tw.init hb2)
  clear hb2
  go_wp2_with fail
  go_loopg [5, 6] l.length (fun gk s5 s6 wx => ∃ (i : Nat) (T : List Hp.Th) (tv : Value) (told : List Hp.V), i ≤ l.length ∧ gk = l.length - i ∧ tv = s5 ∧ s6 = .int .i64 i ∧ Hid (DoesI w wx i T tv told))
  case atStart => exact ⟨0, [], _, [], by omega, rfl, rfl, rfl, ⟨HI.out, ⟨Nat.le_refl _, by simp, by simp⟩, by simp, Nat.le_refl _, by omega⟩⟩
  case round =>
    obtain ⟨i, T, tv, told, hi, rfl, rfl, rfl, HS⟩ := hrel
    clear HI
    by_cases hlt : i < l.length ∧ i < 60
    · obtain ⟨hlt, hlt2⟩ := hlt
      obtain ⟨o, ho⟩ : ∃ o, l[i]? = some o := ⟨_, List.getElem?_eq_getElem hlt⟩
      obtain ⟨ob, oo, va, ga, rfl, hob, d0, d1, d2, d3, hva, hga⟩ := (HOS.out.below HS.out.tw.below).at ho
      have hom := List.mem_of_getElem? ho
      have hi1 : (0 : Int) ≤ i := by omega
      have hi2 : (i : Int) < l.length := by omega
      have hi3 : (i : Int) < 60 := by omega
      have hi4 : decide ((i : Int) < 60) = true := decide_eq_true hi3
      have hgi : IntKind.i64.wrap ((i : Int) + 1) = i + 1 := by rw [IntKind.wrap_i64]; omega
      have HFL := Lib.hid (filled_law o va ga tv told wr (HOK.out o hom) hva hga (VSl.own HS.out.row) (HBY.out o hom) (by have := HS.out.few; have := HS.out.le; omega))
      have HOM := Lib.hid hom
      have HOI := Lib.hid ho
      clear ho hva hga hom
      go_wp2_with fail
      with_reducible refine HFL.out.mono ?_
      rintro e w3 ⟨aa, ac, rfl, hown3, hb3⟩
      have HA3 := Lib.hid (TwA.of HS.out.tw hb3 hown3 (by unfold Hp.fillO; rw [Hp.fillTo_len]))
      have hcap : o.vals.length ≤ ac ∨ o.vals.length = 0 := by
        rcases own_shape hown3 with ⟨_, e, _⟩ | ⟨g, c, e, _, _, h, _⟩
        · exact .inr e
        · cases e
          exact .inl h
      have haa : o.vals.length = 0 ∨ ∃ g, aa = some ⟨g, 0, none⟩ := by
        rcases own_shape hown3 with ⟨_, e, _⟩ | ⟨g, c, e, _, _, h, _⟩
        · exact .inl e
        · cases e
          exact .inr ⟨g, rfl⟩
      have HB3 := Lib.hid (HS.out.tw.below.trans (hb3.mono HS.out.tw.below.size))
      have HFO : Hid ((Hp.fillO o told).length = o.vals.length) := by unfold Hid Hp.fillO; rw [Hp.fillTo_len]
      have hbnd := HBY.out o HOM.out
      obtain ⟨al, hal⟩ : ∃ al, Hp.argsO o told = al := ⟨_, rfl⟩
      have HAL := Lib.hid hal
      clear hb3 hown3 HFL d0 d1 d2 d3 hal
      go_upto_if 43 with fail
      go_cut [7] (fun s7 wx => ∃ ab cb, s7 = .slice ab al.length cb ∧ wx = w3 ∧ Hid (TwA w wx w.heap.size (w.heap.size + 1) T T tv told [] (.slice ab al.length cb) al))
      case first =>
        by_cases h40 : 40 < o.vals.length
        · obtain ⟨g, rfl⟩ : ∃ g, aa = some ⟨g, 0, none⟩ := by
            rcases haa with h | h
            · omega
            · exact h
          have q1 : decide ((40 : Int) < o.vals.length) = true := decide_eq_true (by omega)
          have q0 : (40 : Int) < o.vals.length := by omega
          have q2 : (40 : Int) ≤ ac := by omega
          have q3 : 40 ≤ ac := by omega
          have HT := Lib.hid (HA3.out.take 40 (by rw [HFO.out]; omega))
          have hll : al.length = 40 := by
            rw [← HAL.out]
            unfold Hp.argsO
            rw [List.length_take, HFO.out]
            omega
          have HLL := Lib.hid hll
          clear h40 haa hcap hll
          go_wp2_with fail
          go_meet
          case rel => exact ⟨_, _, by rw [HLL.out], rfl, by rw [HLL.out]; unfold Hp.argsO at HAL; rw [HAL.out] at HT; exact HT⟩
        · have q1 : decide ((40 : Int) < o.vals.length) = false := decide_eq_false (by omega)
          have q0 : ¬ (40 : Int) < o.vals.length := by omega
          have hae : Hp.fillO o told = al := by
            rw [← HAL.out]
            unfold Hp.argsO
            rw [List.take_of_length_le (by rw [HFO.out]; omega)]
          rw [hae] at HA3 HFO
          have HLL : Hid (al.length = o.vals.length) := HFO
          clear h40 haa hcap hae
          go_wp2_with fail
          go_meet
          case rel => exact ⟨_, _, by rw [HLL.out], rfl, by rw [HLL.out]; exact HA3⟩
      case rest =>
        obtain ⟨ab, cb, rfl, rfl, HA⟩ := hcut
        obtain ⟨wq, rfl⟩ : ∃ wq : World, wq = wc := ⟨_, rfl⟩
        clear HA3 haa hcap
        obtain ⟨ob', oo', va', ga', e9, hob', d0, d1, _, _, _, _⟩ := (HOS.out.below HB3.out).at HOI.out
        cases e9
        have hob1 : ob < wq.heap.size + 1 := by omega
        have htl : al.length ≤ 40 := by rw [← HAL.out]; exact Hp.argsO_len o told
        have htx : ∀ v ∈ al, v.text.size ≤ maxLen := by rw [← HAL.out]; exact Hp.argsO_text (HOK.out o HOM.out).text HS.out.text
        have HG := Lib.hid HS.out.good
        have hT60 : T.length ≤ 1000000 := by have := HG.out.len; have := HS.out.le; omega
        have hP : Hp.FewP T := fun t ht => Nat.le_trans (HG.out.few t ht) (by decide)
        obtain ⟨r, er, T', hres⟩ : ∃ r er T', Hp.callO T o told = (r, er, T') := ⟨_, _, _, rfl⟩
        have HGR := Lib.hid (Hp.good_call HG.out o told (HOK.out o HOM.out).text HS.out.text)
        rw [hres] at HGR
        have HR := Lib.hid hres
        have HA5 := Lib.hid ((HA.out.new (.cells #[.int .i64 0, .int .i64 0, .string ⟨#[]⟩] 27) rfl).new (.cells #[.int .i64 0, .int .i64 0, .string ⟨#[]⟩] 27) (s := wq.heap.size + 1) (by simp))
        have HTX := Lib.hid htx
        have HPP := Lib.hid hP
        clear hres htx hP
        go_upto_if 53 with fail
        go_cut [10, 11] (fun s10 s11 wx => s10 = .int .i64 er ∧ s11 = .int .i64 er ∧ Hid (TwA w wx w.heap.size (w.heap.size + 1) T' T' tv told [(wq.heap.size + 1, .cells #[.int .i64 r.kind, .int .i64 r.int, .string r.text] 27 (0, 0)), (wq.heap.size, .cells #[.int .i64 r.kind, .int .i64 r.int, .string r.text] 27 (0, 0))] (.slice ab al.length cb) al))
        case first =>
          by_cases hp : o.prim = ⟨#[]⟩
          · have hmk : Hp.makeF T o.kind al = (r, er, T') := by
              have := HR.out
              unfold Hp.callO at this
              rw [if_pos hp, HAL.out] at this
              exact this
            have HC1 := Lib.hid (HA5.out.call1 (T := T') 15 #[.pointer (some ⟨w.heap.size, 0, none⟩), .int .i64 o.kind, .slice ab al.length cb] r er (fun O hst hv hf => by
              have := Make_any ⟨hst, hv, by omega, HTX.out⟩ hT60 o.kind
              rw [hmk] at this
              exact this))
            have q1 : o.prim.toList.isEmpty = true := by rw [text_nil.2 hp]; rfl
            have q2 : o.prim.toList = [] := text_nil.2 hp
            have HMK := Lib.hid hmk
            clear hp hmk
            go_wp2_with fail
            any_goals (refine absurd (q1.symm.trans (b := o.prim.toList.isEmpty) (c := false) ?_) (by decide); assumption)
            with_reducible refine HC1.out.mono ?_
            rintro e w4 ⟨rfl, HT4, hz4⟩
            have HA6 := Lib.hid HT4.front2
            obtain ⟨r0, r1, r2, f0, f1, f2, hwA⟩ := HA6.out.tw.zer (List.mem_cons_self ..)
            have HA7 := Lib.hid (HA6.out.set3 (.int .i64 r.kind) (.int .i64 r.int) (.string r.text)).front2
            have HC2 := Lib.hid (HA7.out.call2 (T := T') 16 #[.pointer (some ⟨w.heap.size + 1, 0, none⟩), .int .i64 o.kind, .slice ab al.length cb] r er (fun O hst hv => by
              have := rmake_any hst o.kind al _ hv (by omega) HTX.out hT60
              rw [HMK.out] at this
              exact this))
            have k0 : w4.cell? ⟨ob, oo + i * 4, none⟩ = some (.string o.prim) := by
              obtain ⟨_, _, _, _, e8, _, c0, c1, _⟩ := (HOS.out.below HT4.tw.below).at HOI.out
              cases e8
              exact c0
            have k1 : w4.cell? ⟨ob, oo + i * 4 + 1, none⟩ = some (.int .i64 o.kind) := by
              obtain ⟨_, _, _, _, e8, _, c0, c1, _⟩ := (HOS.out.below HT4.tw.below).at HOI.out
              cases e8
              exact c1
            have hnA : ob ≠ wq.heap.size := by omega
            have hnA2 : wq.heap.size ≠ ob := by omega
            clear HT4 hz4
            go_wp2_with fail
            with_reducible refine HC2.out.mono ?_
            rintro e w5 ⟨rfl, HT5, hz5⟩
            obtain ⟨s0, s1, s2, g0, g1, g2, hwB⟩ := HT5.tw.zer (List.mem_cons_self ..)
            have HA8 := Lib.hid (HT5.set3 (.int .i64 r.kind) (.int .i64 r.int) (.string r.text))
            clear HT5 hz5 r0 r1 r2 f0 f1 f2 k0 k1
            go_wp2_with fail
            go_meet
            case rel => exact ⟨rfl, rfl, HA8⟩
          · have hmk : Hp.doF T o.prim al = (r, er, T') := by
              have := HR.out
              unfold Hp.callO at this
              rw [if_neg hp, HAL.out] at this
              exact this
            have HC1 := Lib.hid (HA5.out.call1 (T := T') 11 #[.pointer (some ⟨w.heap.size, 0, none⟩), .string o.prim, .slice ab al.length cb] r er (fun O hst hv hf => by
              have := hdo_any hst o.prim al _ hv hf (by omega) hT60 HPP.out HTX.out
              rw [hmk] at this
              exact this))
            have q1 : o.prim.toList.isEmpty = false := by rw [List.isEmpty_eq_false_iff]; exact fun e => hp (text_nil.1 e)
            have q2 : ¬ o.prim.toList = [] := fun e => hp (text_nil.1 e)
            have HMK := Lib.hid hmk
            clear hp hmk
            go_wp2_with fail
            any_goals (refine absurd (q1.symm.trans (b := o.prim.toList.isEmpty) (c := true) ?_) (by decide); assumption)
            with_reducible refine HC1.out.mono ?_
            rintro e w4 ⟨rfl, HT4, hz4⟩
            have HA6 := Lib.hid HT4.front2
            obtain ⟨r0, r1, r2, f0, f1, f2, hwA⟩ := HA6.out.tw.zer (List.mem_cons_self ..)
            have HA7 := Lib.hid (HA6.out.set3 (.int .i64 r.kind) (.int .i64 r.int) (.string r.text)).front2
            have HC2 := Lib.hid (HA7.out.call2 (T := T') 17 #[.pointer (some ⟨w.heap.size + 1, 0, none⟩), .string o.prim, .slice ab al.length cb] r er (fun O hst hv => by
              have := rdo_any _ _ _ o.prim _ al _ hst hv (by omega) HTX.out hT60 HPP.out
              rw [HMK.out] at this
              exact this))
            have k0 : w4.cell? ⟨ob, oo + i * 4, none⟩ = some (.string o.prim) := by
              obtain ⟨_, _, _, _, e8, _, c0, c1, _⟩ := (HOS.out.below HT4.tw.below).at HOI.out
              cases e8
              exact c0
            have k1 : w4.cell? ⟨ob, oo + i * 4 + 1, none⟩ = some (.int .i64 o.kind) := by
              obtain ⟨_, _, _, _, e8, _, c0, c1, _⟩ := (HOS.out.below HT4.tw.below).at HOI.out
              cases e8
              exact c1
            have hnA : ob ≠ wq.heap.size := by omega
            have hnA2 : wq.heap.size ≠ ob := by omega
            clear HT4 hz4
            go_wp2_with fail
            with_reducible refine HC2.out.mono ?_
            rintro e w5 ⟨rfl, HT5, hz5⟩
            obtain ⟨s0, s1, s2, g0, g1, g2, hwB⟩ := HT5.tw.zer (List.mem_cons_self ..)
            have HA8 := Lib.hid (HT5.set3 (.int .i64 r.kind) (.int .i64 r.int) (.string r.text))
            clear HT5 hz5 r0 r1 r2 f0 f1 f2 k0 k1
            go_wp2_with fail
            go_meet
            case rel => exact ⟨rfl, rfl, HA8⟩
        case rest =>
          obtain ⟨rfl, rfl, HA8⟩ := hcut
          clear HA5 HA
          obtain ⟨x0, x1, x2, _, _, _, hxA⟩ := HA8.out.tw.zer (b := wq.heap.size) (p := .int .i64 r.kind) (q := .int .i64 r.int) (r := .string r.text) (by simp)
          obtain ⟨y0, y1, y2, _, _, _, hyB⟩ := HA8.out.tw.zer (b := wq.heap.size + 1) (p := .int .i64 r.kind) (q := .int .i64 r.int) (r := .string r.text) (by simp)
          obtain ⟨O1, O2, HTO⟩ := HA8.out.tw
          have HCT : Hid (∀ n, Calls Try.prog 13 #[.pointer (some ⟨w.heap.size, 0, none⟩)] (wc.drewN n) fun e w' => e = .returned (.int .i64 T'.length) ∧ w' = wc.drewN n) := fun n => (count_st (HTO.s1.drewN n)).mono fun e w' ⟨h1, h2⟩ => ⟨h1, h2.symm⟩
          obtain ⟨vt2, M2, HM2, eM2⟩ := HTO.s2
          have z0 := HM2.c0
          obtain ⟨sa, sc, rfl⟩ := HM2.shape
          have hml : M2.length = T'.length := by rw [← eM2, List.length_map]
          rw [hml] at z0
          have hmlt := HM2.lth
          have HT8 := Lib.hid HA8.out.tw
          clear hml HM2 eM2 HTO
          go_upto_region 18 with fail
          go_cut [115] (fun s115 wx => s115 = .bool false ∧ Hid (Tw w wx w.heap.size (w.heap.size + 1) T' T' tv told [(wq.heap.size + 1, .cells #[.int .i64 r.kind, .int .i64 r.int, .string r.text] 27 (0, 0)), (wq.heap.size, .cells #[.int .i64 r.kind, .int .i64 r.int, .string r.text] 27 (0, 0))]))
          case first =>
            go_quiet ((go_at_call 13; exact Calls.quiet_of_same (HCT.out _)))
            go_wp2_with fail
            go_meet
            case rel => exact ⟨rfl, HT8.out.bel (below_drewN (Below.refl _ _) _)⟩
          case rest =>
            obtain ⟨rfl, HT9⟩ := hcut
            clear x0 x1 x2 y0 y1 y2 z0 HCT HT8 HA8
            obtain ⟨x0, x1, x2, _, _, _, hxA⟩ := HT9.out.zer (b := wq.heap.size) (p := .int .i64 r.kind) (q := .int .i64 r.int) (r := .string r.text) (by simp)
            have hnext : Hid (∀ v ∈ told ++ [r], v.text.size ≤ maxLen) := fun v hv => by
              rcases List.mem_append.1 hv with hv | hv
              · exact HS.out.text v hv
              · rw [List.mem_singleton.1 hv]; exact HGR.out.2
            by_cases h0 : er = 0
            · have q1 : (er == 0) = true := beq_iff_eq.2 h0
              have HROW : Hid (wc.ownsRow w.heap.size 27 3 tv told.length (Hp.flatV told)) := by
                obtain ⟨O1, O2, h⟩ := HT9.out
                exact h.row
              have hfew := HS.out.few
              have hle := HS.out.le
              have HBW := Lib.hid HT9.out.below
              clear h0
              go_wp2_with (at_builtin; refine wpList_append_at (by rfl) (.tmp 118) (.tmp 120) 32 rfl w.heap.size 27 i1 _ 3 32 Try.underlying32 HJ.out HY0.out HY1.out HY2.out rfl (by decide) tv told.length (Hp.flatV told) rfl (HROW.out.alloc _) (some ⟨wc.heap.size, 0, none⟩) 1 1 [.int .i64 r.kind, .int .i64 r.int, .string r.text] rfl rfl (.inr ⟨_, rfl, new_cells _ (heap_alloc_new wc _)⟩) (by simp [Value.oneCell']) (by simp only [maxLen]; omega) (by omega) (by have := HBW.out.size; simp; omega) ?_; intro tv' w9 hown hgr hlies; have HP := Lib.hid (HT9.out.push hown hgr hlies); clear hown hgr hlies)
              go_roundg (l.length - (i + 1))
              case measure => omega
              case rel => exact ⟨i + 1, T', _, told ++ [r], by omega, rfl, rfl, by go_num, ⟨HP.out, HGR.out.1, hnext.out, by rw [List.length_append]; have := HS.out.few; simp; omega, by omega⟩⟩
            · have q1 : (er == 0) = false := beq_eq_false_iff_ne.2 h0
              clear h0
              go_wp2_with fail
              go_roundg (l.length - (i + 1))
              case measure => omega
              case rel => exact ⟨i + 1, T', _, told, by omega, rfl, rfl, by go_num, ⟨HT9.out.tail.tail, HGR.out.1, HS.out.text, by have := HS.out.few; omega, by omega⟩⟩
    · have hor : (decide ((i : Int) < l.length) = false ∧ decide (i < l.length) = false) ∨ ((decide ((i : Int) < l.length) = true ∧ decide (i < l.length) = true) ∧ decide ((i : Int) < 60) = false) := by
        simp only [decide_eq_true_eq, decide_eq_false_iff_not]
        omega
      have HT0 := Lib.hid HS.out.tw
      have HG := Lib.hid HS.out.good
      have hTl : T.length ≤ 60 := Nat.le_trans HS.out.good.len HS.out.le
      clear hlt HS
      rcases hor with ⟨h1, h1'⟩ | ⟨⟨h1, h1'⟩, h2⟩
      all_goals
        go_wp2_with fail
        go_loopg [12] (T.length + 1) (fun gk s12 wx => ∃ j : Nat, j ≤ T.length + 1 ∧ gk = T.length + 1 - j ∧ s12 = .int .i64 j ∧ Hid (Tw w wx w.heap.size (w.heap.size + 1) T T tv told []))
        case atStart => exact ⟨0, by omega, rfl, rfl, HT0⟩
        case round =>
          obtain ⟨j, hj, rfl, rfl, HT⟩ := hrel
          clear HT0
          obtain ⟨O1, O2, HTO⟩ := HT.out
          obtain ⟨vt2, M2, HM2, eM2⟩ := HTO.s2
          have z0 := HM2.c0
          obtain ⟨sa, sc, rfl⟩ := HM2.shape
          have hml : M2.length = T.length := by rw [← eM2, List.length_map]
          rw [hml] at z0
          have hmlt := HM2.lth
          have hgj : IntKind.i64.wrap ((j : Int) + 1) = j + 1 := by rw [IntKind.wrap_i64]; omega
          by_cases hjl : j < T.length
          · obtain ⟨t, ht⟩ : ∃ t, T[j]? = some t := ⟨_, List.getElem?_eq_getElem hjl⟩
            have hfew := HG.out.few t (List.mem_of_getElem? ht)
            obtain ⟨vt1, M1, m1, HM1, eM1, hm1, rfl⟩ := HTO.s1.find ht
            have HTH := Lib.hid (Thing_some wr HM1 hm1 (by omega))
            obtain ⟨m2, hm2, hmm⟩ : ∃ m2, M2[j]? = some m2 ∧ m2.1 = m1.1 := by
              rw [← eM2, List.getElem?_map] at ht
              simpa using ht
            obtain ⟨g2, c2, e2, hg2, hgh2, d0, d1⟩ := HM2.at hm2
            cases e2
            have hvb := VSl.own (HM2.parts m2 (List.mem_of_getElem? hm2))
            obtain ⟨p2, pc2, hp2⟩ := HM2.partLen (List.mem_of_getElem? hm2)
            rw [hp2] at d1 hvb
            rw [hmm] at d0 d1 hvb
            obtain ⟨⟨tk, tl⟩, mv1⟩ := m1
            dsimp only at *
            have HVB := Lib.hid hvb
            have q1 : decide ((j : Int) < T.length) = true := decide_eq_true (by omega)
            have q2 : decide (j < T.length) = true := decide_eq_true hjl
            have q3 : decide ((j : Int) ≤ T.length) = true := decide_eq_true (by omega)
            have q4 : decide (j ≤ T.length) = true := decide_eq_true (by omega)
            have hj1 : (0 : Int) ≤ j := by omega
            have hj2 : (j : Int) < T.length := by omega
            unfold ThingPost at HTH
            dsimp only at HTH
            clear ht HM1 eM1 hm1 HM2 eM2 hm2 hmm hp2 hvb hml HTO
            go_wp2_with fail
            with_reducible refine HTH.out.mono ?_
            rintro e w4 ⟨ta, tc, rfl, hown4, hb4⟩
            have HW5 : Hid (Below wr.heap.size wr (w4.alloc (.cells #[.int .i64 tk, .slice ta tl.length tc] 54))) := hb4.alloc hb4.size _
            have hb45 : Below w4.heap.size w4 (w4.alloc (.cells #[.int .i64 tk, .slice ta tl.length tc] 54)) := (Below.refl _ _).alloc (Nat.le_refl _) _
            have hva5 := (VSl.own hown4).below hb45 (Nat.le_refl _)
            have hvb5 := HVB.out.below HW5.out (Nat.le_refl _)
            have hX := heap_alloc_new w4 (.cells #[.int .i64 tk, .slice ta tl.length tc] 54)
            have HC : Hid (∀ w', Below (w4.alloc (.cells #[.int .i64 tk, .slice ta tl.length tc] 54)).heap.size (w4.alloc (.cells #[.int .i64 tk, .slice ta tl.length tc] 54)) w' → w'.cell? ⟨w.heap.size + 1, 0, none⟩ = some (.slice (some ⟨g2, 0, none⟩) T.length sc) ∧ w'.cell? ⟨g2, j * 2, none⟩ = some (.int .i64 tk) ∧ w'.cell? ⟨g2, j * 2 + 1, none⟩ = some (.slice p2 tl.length pc2) ∧ w'.cell? ⟨w4.heap.size, 0, none⟩ = some (.int .i64 tk) ∧ w'.cell? ⟨w4.heap.size, 1, none⟩ = some (.slice ta tl.length tc)) := by
              intro w' hb
              have hbb : Below wr.heap.size wr w' := HW5.out.trans (hb.mono HW5.out.size)
              have hX' : w'.heap[w4.heap.size]? = some (.cells #[.int .i64 tk, .slice ta tl.length tc] 54 (0, 0)) := (hb.block _ (by simp)).trans hX
              exact ⟨(hbb.cell (p := ⟨w.heap.size + 1, 0, none⟩) hmlt).trans z0, (hbb.cell (p := ⟨g2, j * 2, none⟩) hg2).trans d0, (hbb.cell (p := ⟨g2, j * 2 + 1, none⟩) hg2).trans d1, cell_of_row w' _ 0 _ _ _ hX', cell_of_row w' _ 1 _ _ _ hX'⟩
            have HSM : Hid (∀ w', Below (w4.alloc (.cells #[.int .i64 tk, .slice ta tl.length tc] 54)).heap.size (w4.alloc (.cells #[.int .i64 tk, .slice ta tl.length tc] 54)) w' → Calls Try.prog 22 #[.agg #[.int .i64 tk, .slice ta tl.length tc], .agg #[.int .i64 tk, .slice p2 tl.length pc2]] w' fun e w'' => e = .returned (.bool true) ∧ Below w'.heap.size w' w'') := by
              intro w' hb
              have := samet_any tk tk _ _ tl tl w' (hva5.below hb (Nat.le_refl _)) (hvb5.below hb (Nat.le_refl _)) (by omega) (by omega)
              simpa using this
            have HT5 := Lib.hid (HT.out.bel HW5.out)
            clear hown4 hb4 hb45 hva5 hvb5 hX z0 d0 d1
            go_upto_region 26 with fail
            go_cut [161] (fun s161 wx => s161 = .bool false ∧ Hid (Tw w wx w.heap.size (w.heap.size + 1) T T tv told []))
            case first =>
              go_region_held3 (fun w' => w'.cell? ⟨w.heap.size + 1, 0, none⟩ = some (.slice (some ⟨g2, 0, none⟩) T.length sc) ∧ w'.cell? ⟨g2, j * 2, none⟩ = some (.int .i64 tk) ∧ w'.cell? ⟨g2, j * 2 + 1, none⟩ = some (.slice p2 tl.length pc2) ∧ w'.cell? ⟨w4.heap.size, 0, none⟩ = some (.int .i64 tk) ∧ w'.cell? ⟨w4.heap.size, 1, none⟩ = some (.slice ta tl.length tc))
                (first | with_reducible exact HC.out _ (Below.refl _ _).drew | with_reducible exact HC.out _ HB6.out | fail)
                (first
                  | (go_at_call 22; (with_reducible refine (HSM.out _ (Below.refl _ _).drew).mono ?_); rintro e w6 ⟨rfl, hb6⟩; have HB6 := Lib.hid ((Below.refl (w4.alloc (.cells #[.int .i64 tk, .slice ta tl.length tc] 54)).heap.size (w4.alloc (.cells #[.int .i64 tk, .slice ta tl.length tc] 54))).drew.trans (hb6.mono (Nat.le_refl _))); clear hb6)
                  | fail)
              all_goals go_wp2_with fail
              all_goals
                go_meet
                case rel => exact ⟨rfl, HT5.out.bel HB6.out⟩
            case rest =>
              obtain ⟨rfl, HT6⟩ := hcut
              go_wp2_with fail
              go_roundg (T.length + 1 - (j + 1))
              case measure => omega
              case rel => exact ⟨j + 1, by omega, rfl, by go_num, HT6⟩
          · by_cases hjl2 : j = T.length
            · obtain ⟨vt1, M1, HM1, eM1⟩ := HTO.s1
              have y0 := HM1.c0
              obtain ⟨ya, yc, rfl⟩ := HM1.shape
              have hml1 : M1.length = T.length := by rw [← eM1, List.length_map]
              rw [hml1] at y0
              have HTN := Lib.hid (Thing_none w.heap.size T.length yc ya ⟨8, (T.length : Nat), ⟨#[]⟩⟩ (Nat.zero_le _) wr y0 (.inr (by simp [Hp.may])))
              unfold Hp.V.val at HTN
              dsimp only at HTN
              obtain rfl : T.length = j := hjl2.symm
              have q1 : decide ((T.length : Int) < T.length) = false := decide_eq_false (by omega)
              have q2 : decide (T.length < T.length) = false := decide_eq_false (by omega)
              clear HM1 eM1 hml1 HM2 eM2 hml HTO y0 hjl hjl2
              go_wp2_with fail
              with_reducible refine HTN.out.mono ?_
              rintro e w4 ⟨rfl, hb4⟩
              have HW5 : Hid (Below wr.heap.size wr (w4.alloc (.cells #[.int .i64 0, .slice none 0 0] 54))) := hb4.alloc hb4.size _
              have z5 : w4.cell? ⟨w.heap.size + 1, 0, none⟩ = some (.slice sa T.length sc) := (hb4.cell (p := ⟨w.heap.size + 1, 0, none⟩) hmlt).trans z0
              have hm4 : w.heap.size + 1 < w4.heap.size := Nat.lt_of_lt_of_le hmlt hb4.size
              have HT5 := Lib.hid (HT.out.bel HW5.out)
              clear hb4 z0
              go_upto_region 26 with fail
              go_cut [161] (fun s161 wx => s161 = .bool false ∧ Hid (Tw w wx w.heap.size (w.heap.size + 1) T T tv told []))
              case first =>
                go_quiet (fail)
                go_wp2_with fail
                go_meet
                case rel => exact ⟨rfl, HT5.out.bel (below_drewN (Below.refl _ _) _)⟩
              case rest =>
                obtain ⟨rfl, HT6⟩ := hcut
                go_wp2_with fail
                go_roundg (T.length + 1 - (T.length + 1))
                case measure => omega
                case rel => exact ⟨T.length + 1, by omega, rfl, by go_num, HT6⟩
            · obtain rfl : j = T.length + 1 := by omega
              have q1 : decide (((T.length + 1 : Nat) : Int) ≤ T.length) = false := decide_eq_false (by omega)
              have q2 : decide (T.length + 1 ≤ T.length) = false := decide_eq_false (by omega)
              have q3 : decide ((T.length : Int) + 1 ≤ T.length) = false := decide_eq_false (by omega)
              have HBW := Lib.hid HT.out.below
              clear HM2 eM2 hml HTO
              go_wp2_with fail
              go_ret
              exact ⟨rfl, HBW.out⟩
end Go.Proofs.Ythbnhneibpoooaa
