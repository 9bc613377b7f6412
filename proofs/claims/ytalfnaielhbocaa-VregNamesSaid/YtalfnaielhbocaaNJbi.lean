/- The machine's Run: carried out. -/
import Derived.Test.YtalfnaielhbocaaNJbh
import Derived.BigRegion
import Derived.Deep.RegionHeld3
import Derived.Test.YtalfnaielhbocaaNJam
import Derived.Test.YtalfnaielhbocaaNJax
import Derived.BigQuiet
import Derived.Test.YtalfnaielhbocaaNJaw
import Derived.Test.YtalfnaielhbocaaNJbf
import Derived.Deep.RegionLaw
set_option linter.unusedVariables false
set_option linter.unusedSimpArgs false
set_option linter.unnecessarySimpa false
namespace Go.Proofs.Ytalfnaielhbocaa
open Go.RowKit
set_option linter.unusedVariables false
set_option linter.unusedSimpArgs false
set_option maxRecDepth 100000
namespace Vm
section
variable {w : World} {cv : Value} {c : Code}
theorem heap_mid (w : World) (a b c : Obj) : (((w.alloc a).alloc b).alloc c).heap[w.heap.size + 1]? = some b := (heap_alloc_old _ _ (by simp)).trans (heap_new (by simp))
theorem heap_low (w : World) (a b c : Obj) : (((w.alloc a).alloc b).alloc c).heap[w.heap.size]? = some a := (heap_alloc_old _ _ (by simp; omega)).trans ((heap_alloc_old _ _ (by simp)).trans (heap_new rfl))
theorem conv_out {w : World} {a : Option Addr} {n cc : Nat} (l : List UInt8) (hn : n = l.length) (h : w.ownsRow 0 5 1 (.slice a n cc) n (bytes l)) (k : Nat) : (convert 65 9 (.slice a n cc)).run Try.prog (w.drewN k) = .ok (.string ⟨l.toArray⟩) (w.drewN k) := by
  subst hn
  have h := own_drewN h k
  rcases own_shape h with ⟨e, e2, e3⟩ | ⟨g, cap, e, h0, h1, h2, h3⟩
  · simp at e
    obtain ⟨rfl, h0, rfl⟩ := e
    have : l = [] := h0
    subst this
    exact run_convert_bytes_nil _ 65 5 Try.underlying65 Try.underlying5 _ _ 9 Try.underlying9
  · simp at e
    obtain ⟨rfl, rfl⟩ := e
    have hmap : (l.map fun b => (b.toNat : Int)).map (fun x => UInt8.ofNat x.toNat) = l := by
      rw [List.map_map]
      conv => rhs; rw [← List.map_id l]
      apply List.map_congr_left
      intro b _
      simp
    have := run_convert_bytes_arg (w.drewN k) 65 5 Try.underlying65 Try.underlying5 g 0 l.length cc (l.map fun b => (b.toNat : Int)) (by simp) (fun i hi => ?_) 9 Try.underlying9
    · rw [this]
      unfold strOfNums
      rw [hmap]
    · rw [Nat.zero_add, h.cellAt i (by omega)]
      simp [bytes, List.getD, List.getElem?_eq_getElem hi]
theorem run_begin {w3 wM : World} {cv : Value} {hb mb m : Nat} {ρ : Nat → Nat} {inp : List UInt8} {steps : Nat} (h : VmO w3 wM ρ (fun _ => .slice none 0 0) m cv (start0 inp) steps 0 hb mb (.slice none 0 0) (.slice none 0 0) (.pointer none) []) :
    MadeIn w3 wM ρ (fun _ => .slice none 0 0) m cv (start0 inp) steps 0 hb mb (.slice none 0 0) (.slice none 0 0) (.pointer none) [] 0 [] false [] (.slice none 0 0) (.pointer none) :=
  ⟨h, World.ownsRow_nil _ _ _ _, (fun b e => by simp [Value.ownBlock] at e), .nil, Nat.zero_le _, (fun c hc => nomatch hc), (fun f hf => nomatch hf), (fun f hf => nomatch hf), fun _ => rfl⟩
theorem keep4 {w : World} {q m i a b c d : Nat} {u0 u1 u2 u3 : Value} (h : m ≠ q) : ((((w.setCell ⟨q, a, none⟩ u0).setCell ⟨q, b, none⟩ u1).setCell ⟨q, c, none⟩ u2).setCell ⟨q, d, none⟩ u3).cell? ⟨m, i, none⟩ = w.cell? ⟨m, i, none⟩ :=
  (cell_set_block _ _ h).trans ((cell_set_block _ _ h).trans ((cell_set_block _ _ h).trans (cell_set_block _ _ h)))
theorem below8 {B : Nat} {w0 w : World} {g : Nat} (h : Below B w0 w) (hg : B ≤ g) (b0 b1 b2 b3 b4 b5 b6 b7 : Value) : Below B w0 ((((((((w.setCell ⟨g, 0, none⟩ b0).setCell ⟨g, 1, none⟩ b1).setCell ⟨g, 2, none⟩ b2).setCell ⟨g, 3, none⟩ b3).setCell ⟨g, 4, none⟩ b4).setCell ⟨g, 5, none⟩ b5).setCell ⟨g, 6, none⟩ b6).setCell ⟨g, 7, none⟩ b7) :=
  (((((((h.setCell (p := ⟨g, 0, none⟩) hg _).setCell (p := ⟨g, 1, none⟩) hg _).setCell (p := ⟨g, 2, none⟩) hg _).setCell (p := ⟨g, 3, none⟩) hg _).setCell (p := ⟨g, 4, none⟩) hg _).setCell (p := ⟨g, 5, none⟩) hg _).setCell (p := ⟨g, 6, none⟩) hg _).setCell (p := ⟨g, 7, none⟩) hg _
theorem drew_at {w : World} {g : Nat} {o : Option Obj} (h : w.heap[g]? = o) : w.drew.heap[g]? = o := h
theorem five_at {w : World} {q g i0 i1 i2 i3 i4 : Nat} {u0 u1 u2 u3 u4 : Value} {o : Option Obj} (hn : g ≠ q) (h : w.heap[g]? = o) : (((((w.setCell ⟨q, i0, none⟩ u0).setCell ⟨q, i1, none⟩ u1).setCell ⟨q, i2, none⟩ u2).setCell ⟨q, i3, none⟩ u3).setCell ⟨q, i4, none⟩ u4).heap[g]? = o := by
  rw [heap_setCell_other _ _ _ _ hn, heap_setCell_other _ _ _ _ hn, heap_setCell_other _ _ _ _ hn, heap_setCell_other _ _ _ _ hn, heap_setCell_other _ _ _ _ hn]
  exact h
theorem run_at {c : Code} {inp : List UInt8} {steps left done : Nat} {s : St} (h1 : steps ≤ 1000000) (he : chk c = 0) (hgo : go c steps (start c inp) = go c left s) (hst : s.e ≠ 0 ∨ s.done = true) (hsum : done + left = steps) : run c inp steps = ⟨s.e, ⟨s.out.toArray⟩, if s.e = 0 then Hp.tellT s.T s.told else none, done⟩ := by
  unfold run
  rw [if_neg (by omega), if_neg (fun h => h he)]
  have e : (steps : Int).toNat = steps := by omega
  rw [e, hgo, go_stop hst]
  have : (steps : Int) - left = done := by omega
  simp only [this]
structure Rn (w3 wx : World) (m : Nat) (cv : Value) (c : Code) (inp : List UInt8) (total gk : Nat) : Prop where
  ex : ∃ s left done n, VmAt w3 wx m cv s left done ∧ done + left = total ∧ go c total (start c inp) = go c left s ∧ Mo c n s ∧ n + left ≤ total + 1 ∧ (s.e = 0 → s.done = false → Cu c s ∧ s.pos = 0 ∧ left < gk)
set_option maxHeartbeats 16000000 in
theorem Run_good (inp : List UInt8) (steps : Nat) (al : Option Addr) (nl cl : Nat) (h1 : steps ≤ 800000) (hck : ChkIs (.slice al nl cl) c w) (he : chk c = 0) (hc : CodeOk c) (hcode : CodeAt w (.slice al nl cl) c) :
    Calls Try.prog 11 #[.agg #[.slice al nl cl], .string ⟨inp.toArray⟩, .int .i64 steps] w (OutPost (run c inp steps) w) := by
  have g1 : decide ((steps : Int) < 0) = false := decide_eq_false (by omega)
  have g2 : decide ((1000000 : Int) < steps) = false := decide_eq_false (by omega)
  have g2' : decide (1000000 < steps) = false := decide_eq_false (by omega)
  obtain ⟨w1, B1⟩ := boxed w #[.slice al nl cl] 24
  obtain ⟨w2, B2⟩ := boxed w1 #[.int .i64 0, .string ⟨#[]⟩, .int .i64 0, .int .i64 0, .string ⟨#[]⟩, .slice none 0 0, .bool false, .int .i64 0] 33
  have hs1 := B1.size
  have hs2 := B2.size
  have hB2 : Below w.heap.size w w2 := B1.below.trans (B2.below.mono B1.below.size)
  have hck2 := hck w2 hB2
  rw [he] at hck2
  have HCK := Lib.hid hck2
  have HCODE := Lib.hid hcode
  have HC0 := Lib.hid hc
  have HB1 := Lib.hid B1
  have HB2 := Lib.hid B2
  have HB := Lib.hid hB2
  clear hck hck2 B1 B2 hB2
  go_enter Try.func11, Try.ntmps11
  go_wp2_with fail
  rw [← HB1.out.eq, ← HB2.out.eq]
  with_reducible refine HCK.out.mono ?_
  rintro e w3 ⟨rfl, hb3⟩
  have hc3 := (hb3.block w.heap.size (by omega)).trans ((HB2.out.below.block w.heap.size (by omega)).trans HB1.out.blk)
  have cc := cell_of_row w3 w.heap.size 0 _ _ _ hc3
  simp only [List.getElem?_toArray, List.getElem?_cons_zero] at cc
  have hl3 : w.heap.size < w3.heap.size := (Array.getElem?_eq_some_iff.1 hc3).1
  have hr3 := (hb3.block w1.heap.size (by omega)).trans HB2.out.blk
  rw [hs1] at hr3
  have HR3 := Lib.hid hr3
  have HB3 := Lib.hid hb3
  have hs3 := hb3.size
  have HF : Hid (w3.cell? ⟨w.heap.size, 0, none⟩ = some (.slice al nl cl)) := cc
  have HNEW : Hid (∀ w, Calls Try.prog 21 #[] w fun e w' => e = .returned (.pointer (some ⟨w.heap.size, 0, none⟩)) ∧ w' = w.alloc (.cells #[.slice none 0 0] 83)) := fun w => new_any w
  have hmm : ∀ w, (Instr.makeMap 62 none).run Try.prog w = .ok (.map (some w.heap.size)) (w.alloc (.map #[] 0)) := fun w => run_makeMap _ w
  clear hb3 hc3 hr3
  go_wp2_with fail
  go_region_held3 (fun w' => w'.cell? ⟨w.heap.size, 0, none⟩ = some (.slice al nl cl))
    (first | exact HF.out | exact alloc_at _ HF.out | exact alloc_at _ (alloc_at _ HF.out) | exact alloc_at _ (alloc_at _ (alloc_at _ HF.out)))
    (first
      | (go_at_call 21; (with_reducible refine (HNEW.out _).mono ?_); rintro e w4 ⟨rfl, rfl⟩))
  all_goals first
    | (obtain ⟨wM, hwM⟩ : ∃ wM, wM = (((w3.alloc (.map #[] 0)).alloc (.cells #[.slice none 0 0] 83)).alloc (.cells #[.slice al nl cl, .pointer (some ⟨(w3.heap.size + 1), 0, none⟩), .map (some w3.heap.size), .string ⟨inp.toArray⟩, .slice none 0 0, .int .i64 4, .int .i64 0, .string ⟨#[]⟩, .int .i64 0, .int .i64 steps, .int .i64 0, .int .i64 0, .slice none 0 0, .slice none 0 0, .int .i64 0, .pointer none, .bool false, .int .i64 0, .int .i64 0, .string ⟨#[]⟩] 69)).drew := ⟨_, rfl⟩; rw [← hwM]; have X0 : ∃ ρ hb mb, VmO w3 wM ρ (fun _ => .slice none 0 0) (w3.heap.size + 1 + 1) (.slice al nl cl) (start0 inp) steps 0 hb mb (.slice none 0 0) (.slice none 0 0) (.pointer none) [] := ⟨_, (w3.heap.size + 1), w3.heap.size, hwM ▸ VmO.init inp steps ((((Below.refl _ _).alloc (Nat.le_refl _) _).alloc (by simp) _).alloc (by simp; omega) _).drew (heap_mid w3 _ _ _) ⟨#[], 0, heap_low w3 _ _ _, rfl⟩ (heap_new (by simp)) (by omega) (by omega) (by omega) (by omega) (by omega) (by omega)⟩)
    | (obtain ⟨wM, hwM⟩ : ∃ wM, wM = (((w3.alloc (.cells #[.slice none 0 0] 83)).alloc (.map #[] 0)).alloc (.cells #[.slice al nl cl, .pointer (some ⟨w3.heap.size, 0, none⟩), .map (some (w3.heap.size + 1)), .string ⟨inp.toArray⟩, .slice none 0 0, .int .i64 4, .int .i64 0, .string ⟨#[]⟩, .int .i64 0, .int .i64 steps, .int .i64 0, .int .i64 0, .slice none 0 0, .slice none 0 0, .int .i64 0, .pointer none, .bool false, .int .i64 0, .int .i64 0, .string ⟨#[]⟩] 69)).drew := ⟨_, rfl⟩; rw [← hwM]; have X0 : ∃ ρ hb mb, VmO w3 wM ρ (fun _ => .slice none 0 0) (w3.heap.size + 1 + 1) (.slice al nl cl) (start0 inp) steps 0 hb mb (.slice none 0 0) (.slice none 0 0) (.pointer none) [] := ⟨_, w3.heap.size, (w3.heap.size + 1), hwM ▸ VmO.init inp steps ((((Below.refl _ _).alloc (Nat.le_refl _) _).alloc (by simp) _).alloc (by simp; omega) _).drew (heap_low w3 _ _ _) ⟨#[], 0, heap_mid w3 _ _ _, rfl⟩ (heap_new (by simp)) (by omega) (by omega) (by omega) (by omega) (by omega) (by omega)⟩)
  all_goals
    obtain ⟨ρ0, hb, mb, X0⟩ := X0
    clear hwM
    have HM0 := made_any (run_begin X0)
    rw [show (((0 : Nat) : Int)) = 0 from rfl] at HM0
    have HM := Lib.hid HM0
    unfold MadePost St.newV Hp.V.val at HM
    dsimp only at HM
    rw [show (((start0 inp).T.length : Nat) : Int) = 0 from rfl] at HM
    clear HM0
    have HC1 := Lib.hid X0.c.below
    clear X0
    go_wp2_with fail
    with_reducible refine HM.out.mono ?_
    rintro e w5 ⟨rfl, ⟨ρ5, H5, X5, hz5⟩, hs5, hk5⟩
    have hcode3 : CodeAt w3 (.slice al nl cl) c := HCODE.out.bel (HB.out.trans (HB3.out.mono HB.out.size))
    have HCODE3 := Lib.hid hcode3
    have HCA0 := call_any X5 HC0.out hcode3 (start_mo c HC0.out inp) ⟨8, 0, ⟨#[]⟩⟩ [] none 0 (World.ownsRow_nil _ _ _ _) (fun b e => by simp [Value.ownBlock] at e)
    rw [show ([] : List Hp.V).length = 0 from rfl] at HCA0
    have HCA := Lib.hid HCA0
    unfold Hp.V.val at HCA
    dsimp only at HCA
    clear HCA0 X5 hz5 hk5 hcode3
    go_wp2_with fail
    with_reducible refine HCA.out.mono ?_
    rintro e w6 hV
    obtain ⟨rfl, hV2⟩ := hV
    have hst : call c ((start0 inp).made 0 [] false []) ⟨8, 0, ⟨#[]⟩⟩ [] = start c inp := rfl
    rw [hst] at hV2
    have hcok := call_ok HC0.out (start_mo c HC0.out inp) (v := ⟨8, 0, ⟨#[]⟩⟩) (a := []) (fun v hv => nomatch hv)
    rw [hst] at hcok
    have hR0 : Rn w3 w6 (w3.heap.size + 1 + 1) (.slice al nl cl) c inp steps (steps + 1) := ⟨⟨_, steps, 0, 1, hV2, by omega, rfl, hcok.1, by omega, fun e1 e2 => ⟨hcok.2 e1 e2 rfl, call_pos e1 e2, by omega⟩⟩⟩
    have HR0 := Lib.hid hR0
    clear hV2 hst hcok hR0
    go_wp2_with fail
    go_loopg [] (steps + 1) (fun gk wx => Hid (Rn w3 wx (w3.heap.size + 1 + 1) (.slice al nl cl) c inp steps gk))
    case atStart => exact HR0.out
    case round =>
      obtain ⟨s, left, done, n, ⟨ρ, H, hb', mb', ov, rv, fv, cbs, X⟩, hsum, hgo, hmo, hnl, hcu⟩ := (hrel : Hid _).out.ex
      have hmr := X.lt
      have c10 : wr.cell? ⟨w3.heap.size + 1 + 1, 10, none⟩ = some (.int .i64 s.e) := X.cell 10
      have c16 : wr.cell? ⟨w3.heap.size + 1 + 1, 16, none⟩ = some (.bool s.done) := X.cell 16
      by_cases hgoon : s.e = 0 ∧ s.done = false
      · obtain ⟨he0, hd0⟩ := hgoon
        obtain ⟨hu, hpos, hlg⟩ := hcu he0 hd0
        have HRUN := Lib.hid (run_any X HC0.out HCODE3.out hmo hu he0 hd0 hpos (by omega) (by omega))
        have HGO := Lib.hid hgo
        rw [hd0] at c16
        have k1 : (s.e == 0) = true := by rw [he0]; rfl
        clear X hgo hmo hu hcu
        go_wp2_with fail
        with_reducible refine HRUN.out.mono ?_
        rintro e w7 hV
        obtain ⟨rfl, s', left', done', n', hV', hsum', hgo', hmo', hnl', hcu'⟩ := hV
        have HN7 : Hid (Rn w3 w7 (w3.heap.size + 1 + 1) (.slice al nl cl) c inp steps left) := ⟨⟨s', left', done', n', hV', by omega, HGO.out.trans hgo', hmo', by omega, hcu'⟩⟩
        clear hV' hgo' hmo' hcu'
        go_wp2_with fail
        go_roundg left
        case measure => omega
        case rel => exact HN7.out
      · have hst : s.e ≠ 0 ∨ s.done = true := by
          by_cases h : s.e = 0
          · refine .inr ?_
            cases hd : s.done with
            | true => rfl
            | false => exact absurd ⟨h, hd⟩ hgoon
          · exact .inl h
        have HRA := Lib.hid (run_at (c := c) (inp := inp) (by omega) he hgo hst hsum)
        have hB7 := X.c.below
        have hrow := X.c.out
        obtain ⟨ao, co, hov⟩ := own_slice hrow
        subst hov
        have hconv := fun k => conv_out s.out rfl hrow k
        have hconv1 : (convert 65 9 (.slice ao s.out.length co)).run Try.prog wr.drew = .ok (.string ⟨s.out.toArray⟩) wr.drew := hconv 1
        have hconv0 : (convert 65 9 (.slice ao s.out.length co)).run Try.prog wr = .ok (.string ⟨s.out.toArray⟩) wr := hconv 0
        have hconvA : ∀ o, (convert 65 9 (.slice ao s.out.length co)).run Try.prog (wr.alloc o).drew = .ok (.string ⟨s.out.toArray⟩) (wr.alloc o).drew := fun o => conv_out s.out rfl (hrow.alloc o) 1
        have c4 : wr.cell? ⟨w3.heap.size + 1 + 1, 4, none⟩ = some (.slice ao s.out.length co) := X.cell 4
        have c8 : wr.cell? ⟨w3.heap.size + 1 + 1, 8, none⟩ = some (.int .i64 done) := X.cell 8
        have hres := (hB7.block (w.heap.size + 1) (by omega)).trans HR3.out
        obtain ⟨z0, z1, z2, z3, z4, z5, z6, z7, zf⟩ := Res8.of hres
        have y0 := zf 0
        have y1 := zf 1
        have y2 := zf 2
        have y3 := zf 3
        have y4 := zf 4
        have y5 := zf 5
        have y6 := zf 6
        have y7 := zf 7
        have hl7 : w.heap.size + 1 < wr.heap.size := by have := hB7.size; omega
        have HRES := Lib.hid hres
        have hBB : Below w.heap.size w wr := (HB.out.trans (HB3.out.mono HB.out.size)).trans (hB7.mono (by omega))
        have HBB := Lib.hid hBB
        have HX := Lib.hid X
        have HMO := Lib.hid hmo
        clear X hrow hconv hB7 hres zf hBB hmo hgo hcu
        by_cases hz : s.e = 0
        · have hd1 : s.done = true := hst.resolve_left (fun h => h hz)
          rw [hd1] at c16
          have k1 : (s.e == 0) = true := by rw [hz]; rfl
          obtain ⟨w7, B7⟩ := boxed wr #[.int .i64 s.e, .string ⟨s.out.toArray⟩, .int .i64 0, .int .i64 0, .string ⟨#[]⟩, .slice none 0 0, .bool false, .int .i64 done] 33
          have hs7 := B7.size
          have X7 := HX.out.bel B7.below
          have m10 : w7.cell? ⟨w3.heap.size + 1 + 1, 10, none⟩ = some (.int .i64 s.e) := X7.cell 10
          have hm7 := X7.lt
          have hres7 := (B7.below.block (w.heap.size + 1) hl7).trans HRES.out
          have hl8 : w.heap.size + 1 < w7.heap.size := by omega
          have hl9 : wr.heap.size < w7.heap.size := by omega
          have hn7 : wr.heap.size ≠ w.heap.size + 1 := by omega
          have hn8 : w.heap.size + 1 ≠ wr.heap.size := by omega
          have HRES7 := Lib.hid hres7
          have HB7 := Lib.hid B7
          rw [hz] at HB7 m10
          have m1 : w7.cell? ⟨w3.heap.size + 1 + 1, 1, none⟩ = some (.pointer (some ⟨hb', 0, none⟩)) := X7.cell 1
          have m17 : w7.cell? ⟨w3.heap.size + 1 + 1, 17, none⟩ = some (.int .i64 s.told.kind) := X7.cell 17
          have m18 : w7.cell? ⟨w3.heap.size + 1 + 1, 18, none⟩ = some (.int .i64 s.told.int) := X7.cell 18
          have m19 : w7.cell? ⟨w3.heap.size + 1 + 1, 19, none⟩ = some (.string s.told.text) := X7.cell 19
          have hmq : w3.heap.size + 1 + 1 ≠ wr.heap.size := by omega
          have HF7 : Hid (w7.cell? ⟨w3.heap.size + 1 + 1, 1, none⟩ = some (.pointer (some ⟨hb', 0, none⟩)) ∧ w7.cell? ⟨w3.heap.size + 1 + 1, 17, none⟩ = some (.int .i64 s.told.kind) ∧ w7.cell? ⟨w3.heap.size + 1 + 1, 17 + 1, none⟩ = some (.int .i64 s.told.int) ∧ w7.cell? ⟨w3.heap.size + 1 + 1, 17 + 2, none⟩ = some (.string s.told.text)) := ⟨m1, m17, m18, m19⟩
          have HF7a : Hid (w7.drew.drew.cell? ⟨w3.heap.size + 1 + 1, 1, none⟩ = some (.pointer (some ⟨hb', 0, none⟩)) ∧ w7.drew.drew.cell? ⟨w3.heap.size + 1 + 1, 17, none⟩ = some (.int .i64 s.told.kind) ∧ w7.drew.drew.cell? ⟨w3.heap.size + 1 + 1, 17 + 1, none⟩ = some (.int .i64 s.told.int) ∧ w7.drew.drew.cell? ⟨w3.heap.size + 1 + 1, 17 + 2, none⟩ = some (.string s.told.text)) := HF7.out
          have HF7b : Hid (w7.drew.cell? ⟨w3.heap.size + 1 + 1, 1, none⟩ = some (.pointer (some ⟨hb', 0, none⟩)) ∧ w7.drew.cell? ⟨w3.heap.size + 1 + 1, 17, none⟩ = some (.int .i64 s.told.kind) ∧ w7.drew.cell? ⟨w3.heap.size + 1 + 1, 17 + 1, none⟩ = some (.int .i64 s.told.int) ∧ w7.drew.cell? ⟨w3.heap.size + 1 + 1, 17 + 2, none⟩ = some (.string s.told.text)) := HF7.out
          have HTL := Lib.hid (Tell_any (w := w7.drew.drew) s.told (X7.drew 2).c.heap HMO.out.wf HMO.out.told)
          unfold Hp.V.val at HTL
          obtain ⟨q0, q1, q2, q3, q4, q5, q6, q7, qf⟩ := Res8.of B7.blk
          have hbq := B7.blk
          have HBQ := Lib.hid hbq
          have X7L := Lib.hid X7
          clear X7 B7 hres7 qf hbq
          go_wp2_with fail
          go_region
          rw [← HB7.out.eq]
          go_wp2_with fail
          go_region_held3 (fun w' => w'.cell? ⟨w3.heap.size + 1 + 1, 1, none⟩ = some (.pointer (some ⟨hb', 0, none⟩)) ∧ w'.cell? ⟨w3.heap.size + 1 + 1, 17, none⟩ = some (.int .i64 s.told.kind) ∧ w'.cell? ⟨w3.heap.size + 1 + 1, 17 + 1, none⟩ = some (.int .i64 s.told.int) ∧ w'.cell? ⟨w3.heap.size + 1 + 1, 17 + 2, none⟩ = some (.string s.told.text))
            (first | with_reducible exact HF7a.out | with_reducible exact HF7.out | with_reducible exact HF7b.out | with_reducible exact HF8.out | with_reducible exact HF9.out _ _ _ _ | with_reducible exact HF10.out _ _ _ _ _)
            (first
              | (go_at_call 25; (with_reducible refine HTL.out.mono ?_); rintro e w8 ⟨d, ad, cd, rfl, hdt, hb8, hde⟩; have hb78 : Below w7.heap.size w7 w8 := (((Below.refl _ _).drew).drew).trans hb8; have HDT := Lib.hid hdt; have HDE := Lib.hid hde; have HB78 := Lib.hid hb78; have X8 := X7L.out.bel hb78; have n1 : w8.cell? ⟨w3.heap.size + 1 + 1, 1, none⟩ = some (.pointer (some ⟨hb', 0, none⟩)) := X8.cell 1; have n17 : w8.cell? ⟨w3.heap.size + 1 + 1, 17, none⟩ = some (.int .i64 s.told.kind) := X8.cell 17; have n18 : w8.cell? ⟨w3.heap.size + 1 + 1, 18, none⟩ = some (.int .i64 s.told.int) := X8.cell 18; have n19 : w8.cell? ⟨w3.heap.size + 1 + 1, 19, none⟩ = some (.string s.told.text) := X8.cell 19; have HF8 := Lib.hid (And.intro n1 (And.intro n17 (And.intro n18 n19))); have HF9 : Hid (∀ u0 u1 u2 u3 : Value, ((((w8.setCell ⟨wr.heap.size, 2, none⟩ u0).setCell ⟨wr.heap.size, 2 + 1, none⟩ u1).setCell ⟨wr.heap.size, 2 + 2, none⟩ u2).setCell ⟨wr.heap.size, 2 + 3, none⟩ u3).cell? ⟨w3.heap.size + 1 + 1, 1, none⟩ = some (.pointer (some ⟨hb', 0, none⟩)) ∧ ((((w8.setCell ⟨wr.heap.size, 2, none⟩ u0).setCell ⟨wr.heap.size, 2 + 1, none⟩ u1).setCell ⟨wr.heap.size, 2 + 2, none⟩ u2).setCell ⟨wr.heap.size, 2 + 3, none⟩ u3).cell? ⟨w3.heap.size + 1 + 1, 17, none⟩ = some (.int .i64 s.told.kind) ∧ ((((w8.setCell ⟨wr.heap.size, 2, none⟩ u0).setCell ⟨wr.heap.size, 2 + 1, none⟩ u1).setCell ⟨wr.heap.size, 2 + 2, none⟩ u2).setCell ⟨wr.heap.size, 2 + 3, none⟩ u3).cell? ⟨w3.heap.size + 1 + 1, 17 + 1, none⟩ = some (.int .i64 s.told.int) ∧ ((((w8.setCell ⟨wr.heap.size, 2, none⟩ u0).setCell ⟨wr.heap.size, 2 + 1, none⟩ u1).setCell ⟨wr.heap.size, 2 + 2, none⟩ u2).setCell ⟨wr.heap.size, 2 + 3, none⟩ u3).cell? ⟨w3.heap.size + 1 + 1, 17 + 2, none⟩ = some (.string s.told.text)) := fun u0 u1 u2 u3 => ⟨(keep4 hmq).trans n1, (keep4 hmq).trans n17, (keep4 hmq).trans n18, (keep4 hmq).trans n19⟩; have HF10 : Hid (∀ u0 u1 u2 u3 u4 : Value, (((((w8.setCell ⟨wr.heap.size, 2, none⟩ u0).setCell ⟨wr.heap.size, 2 + 1, none⟩ u1).setCell ⟨wr.heap.size, 2 + 2, none⟩ u2).setCell ⟨wr.heap.size, 2 + 3, none⟩ u3).setCell ⟨wr.heap.size, 6, none⟩ u4).cell? ⟨w3.heap.size + 1 + 1, 1, none⟩ = some (.pointer (some ⟨hb', 0, none⟩)) ∧ (((((w8.setCell ⟨wr.heap.size, 2, none⟩ u0).setCell ⟨wr.heap.size, 2 + 1, none⟩ u1).setCell ⟨wr.heap.size, 2 + 2, none⟩ u2).setCell ⟨wr.heap.size, 2 + 3, none⟩ u3).setCell ⟨wr.heap.size, 6, none⟩ u4).cell? ⟨w3.heap.size + 1 + 1, 17, none⟩ = some (.int .i64 s.told.kind) ∧ (((((w8.setCell ⟨wr.heap.size, 2, none⟩ u0).setCell ⟨wr.heap.size, 2 + 1, none⟩ u1).setCell ⟨wr.heap.size, 2 + 2, none⟩ u2).setCell ⟨wr.heap.size, 2 + 3, none⟩ u3).setCell ⟨wr.heap.size, 6, none⟩ u4).cell? ⟨w3.heap.size + 1 + 1, 17 + 1, none⟩ = some (.int .i64 s.told.int) ∧ (((((w8.setCell ⟨wr.heap.size, 2, none⟩ u0).setCell ⟨wr.heap.size, 2 + 1, none⟩ u1).setCell ⟨wr.heap.size, 2 + 2, none⟩ u2).setCell ⟨wr.heap.size, 2 + 3, none⟩ u3).setCell ⟨wr.heap.size, 6, none⟩ u4).cell? ⟨w3.heap.size + 1 + 1, 17 + 2, none⟩ = some (.string s.told.text)) := fun u0 u1 u2 u3 u4 => ⟨(cell_set_block _ _ hmq).trans ((keep4 hmq).trans n1), (cell_set_block _ _ hmq).trans ((keep4 hmq).trans n17), (cell_set_block _ _ hmq).trans ((keep4 hmq).trans n18), (cell_set_block _ _ hmq).trans ((keep4 hmq).trans n19)⟩; have hbq8 := (hb78.block wr.heap.size hl9).trans HBQ.out; have HBQ8 := Lib.hid hbq8; obtain ⟨r0, r1, r2, r3, r4, r5, r6, r7, rf⟩ := Res8.of hbq8; have rf2 := rf 2; have rf3 := rf 3; have rf4 := rf 4; have rf5 := rf 5; have rf6 := rf 6; have hres8 := (hb78.block (w.heap.size + 1) hl8).trans HRES7.out; have HRES8 := Lib.hid hres8; obtain ⟨t0, t1, t2, t3, t4, t5, t6, t7, tf⟩ := Res8.of hres8; have tf0 := tf 0; have tf1 := tf 1; have tf2 := tf 2; have tf3 := tf 3; have tf4 := tf 4; have tf5 := tf 5; have tf6 := tf 6; have tf7 := tf 7; have hl88 : w.heap.size + 1 < w8.heap.size := Nat.lt_of_lt_of_le hl8 hb78.size; have hl98 : wr.heap.size < w8.heap.size := Nat.lt_of_lt_of_le hl9 hb78.size; have hm8 := X8.lt; clear hdt hb8 hde hb78 X8 hbq8 rf hres8 tf))
          all_goals
            go_wp2_with fail
            refine bodyPost_ret (res1 rfl _ _ (w.heap.size + 1) 33 _ (0, 0) rfl (out_set _ _ _ _ _ _ _ _ _ _ _ _ _ _ _ _ _ _ (five_at hn8 HRES8.out)) outcomeD outcomeSize) rfl ?_
            rw [HRA.out, if_pos hz, hz]
            have hb8 : Below w.heap.size w w8 := (HBB.out.trans (HB7.out.below.mono HBB.out.size)).trans (HB78.out.mono (by omega))
            have hq : w.heap.size ≤ wr.heap.size := by omega
            refine ⟨d, ad, cd, ?_, ?_, ?_, HDE.out⟩
            · rfl
            · refine HDT.out.same (fun b h1 h2 => ?_) ?_ fun b h1 h2 => ?_
              · have h3 : w7.heap.size ≤ b := h1
                omega
              · simp [World.setCell]
              · have h3 : w7.heap.size ≤ b := h1
                have e1 : b ≠ wr.heap.size := by omega
                have e2 : b ≠ w.heap.size + 1 := by omega
                rw [heap_setCell_other _ _ _ _ e2, heap_setCell_other _ _ _ _ e2, heap_setCell_other _ _ _ _ e2, heap_setCell_other _ _ _ _ e2, heap_setCell_other _ _ _ _ e2, heap_setCell_other _ _ _ _ e2, heap_setCell_other _ _ _ _ e2, heap_setCell_other _ _ _ _ e2, heap_setCell_other _ _ _ _ e1, heap_setCell_other _ _ _ _ e1, heap_setCell_other _ _ _ _ e1, heap_setCell_other _ _ _ _ e1, heap_setCell_other _ _ _ _ e1]
            · exact below8 (((((hb8.setCell (p := ⟨wr.heap.size, 2, none⟩) hq _).setCell (p := ⟨wr.heap.size, 3, none⟩) hq _).setCell (p := ⟨wr.heap.size, 4, none⟩) hq _).setCell (p := ⟨wr.heap.size, 5, none⟩) hq _).setCell (p := ⟨wr.heap.size, 6, none⟩) hq _) (Nat.le_succ _) _ _ _ _ _ _ _ _
        · have k1 : (s.e == 0) = false := beq_eq_false_iff_ne.2 hz
          obtain ⟨w7, B7⟩ := boxed wr #[.int .i64 s.e, .string ⟨s.out.toArray⟩, .int .i64 0, .int .i64 0, .string ⟨#[]⟩, .slice none 0 0, .bool false, .int .i64 done] 33
          have hs7 := B7.size
          have X7 := HX.out.bel B7.below
          have m10 : w7.cell? ⟨w3.heap.size + 1 + 1, 10, none⟩ = some (.int .i64 s.e) := X7.cell 10
          have hm7 := X7.lt
          have hres7 := (B7.below.block (w.heap.size + 1) hl7).trans HRES.out
          have hl8 : w.heap.size + 1 < w7.heap.size := by omega
          have hl9 : wr.heap.size < w7.heap.size := by omega
          have hn7 : wr.heap.size ≠ w.heap.size + 1 := by omega
          have hn8 : w.heap.size + 1 ≠ wr.heap.size := by omega
          have HRES7 := Lib.hid hres7
          have HB7 := Lib.hid B7
          obtain ⟨t0, t1, t2, t3, t4, t5, t6, t7, tf⟩ := Res8.of hres7
          have tf0 := tf 0
          have tf1 := tf 1
          have tf2 := tf 2
          have tf3 := tf 3
          have tf4 := tf 4
          have tf5 := tf 5
          have tf6 := tf 6
          have tf7 := tf 7
          obtain ⟨q0, q1, q2, q3, q4, q5, q6, q7, qf⟩ := Res8.of B7.blk
          clear hres7 tf qf B7 X7
          go_wp2_with fail
          go_region
          rw [← HB7.out.eq]
          go_wp2_with fail
          refine bodyPost_ret (res1 rfl _ _ (w.heap.size + 1) 33 _ (0, 0) rfl (drew_at (out_set _ _ _ _ _ _ _ _ _ _ _ _ _ _ _ _ _ _ HRES7.out)) outcomeD outcomeSize) rfl ?_
          rw [HRA.out, if_neg hz]
          refine ⟨.mk 0 0 ⟨#[]⟩ [], none, 0, ?_, .nil _ _ _, ?_, ?_⟩
          · rfl
          · exact (below8 (HBB.out.trans (HB7.out.below.mono HBB.out.size)) (Nat.le_succ _) _ _ _ _ _ _ _ _).drew
          · rfl
end
end Vm
end Go.Proofs.Ytalfnaielhbocaa
namespace Go.Proofs.Ytalfnaielhbocaa
open Go.RowKit
set_option linter.unusedVariables false
set_option linter.unusedSimpArgs false
namespace Vm
theorem run_far {c : Code} {inp : List UInt8} {steps : Int} (h : steps < 0 ∨ 1000000 < steps) : run c inp steps = ⟨1, ⟨#[]⟩, none, 0⟩ := by
  unfold run
  rw [if_pos h]
theorem run_form {c : Code} {inp : List UInt8} {steps : Int} (h : ¬ (steps < 0 ∨ 1000000 < steps)) (hc : chk c ≠ 0) : run c inp steps = ⟨chk c, ⟨#[]⟩, none, 0⟩ := by
  unfold run
  rw [if_neg h, if_pos hc]
theorem Run_any {w : World} {c : Code} (inp : List UInt8) (steps : Int) (al : Option Addr) (cl : Nat) (h1 : steps ≤ 800000 ∨ 1000000 < steps) (hcode : CodeAt w (.slice al c.length cl) c) (hlen : c.length ≤ 1000000000000000) (hfit : ∀ p ∈ c, PrcFit p) :
    Calls Try.prog 11 #[.agg #[.slice al c.length cl], .string ⟨inp.toArray⟩, .int .i64 steps] w (OutPost (run c inp steps) w) := by
  by_cases hs : steps < 0 ∨ 1000000 < steps
  · rw [run_far hs]
    exact Run_steps _ _ _ _ _ (by omega)
  · by_cases he : chk c = 0
    · obtain ⟨n, rfl⟩ : ∃ n : Nat, steps = n := ⟨steps.toNat, by omega⟩
      exact Run_good inp n al c.length cl (by omega) (chk_is al cl hcode hlen hfit) he (codeOk he hfit) hcode
    · rw [run_form hs he]
      exact Run_form _ _ _ _ _ (by omega) (by omega) (chk_is al cl hcode hlen hfit) he
def code1 (regs : Int) (l : List Ins) (x : Fin) : Code := [⟨0, 0, regs, [⟨l, x⟩]⟩]
def fxA : Code := code1 1 [⟨sConst, 0, [], .mk 1 5 ⟨#[]⟩ [], 0⟩] ⟨2, 0, [], 0, 0, 0⟩
def fxB : Code := code1 1 [] ⟨3, 0, [], 0, 0, 0⟩
def fxC : Code := code1 1 [] ⟨0, 0, [], 0, 0, 0⟩
theorem run_of {c : Code} {inp : List UInt8} {n : Nat} (h : n ≤ 1000000) (hc : chk c = 0) {s : St} {left : Nat} (hg : go c n (start c inp) = (s, left)) : run c inp n = ⟨s.e, ⟨s.out.toArray⟩, if s.e = 0 then Hp.tellT s.T s.told else none, (n : Int) - left⟩ := by
  unfold run
  rw [if_neg (by omega), if_neg (by rw [hc]; decide), Int.toNat_natCast, hg]
theorem tell_int (T : List Hp.Th) (n : Int) (h : isN n = true) : Hp.tellT T ⟨1, n, ⟨#[]⟩⟩ = some (.mk 1 n ⟨#[]⟩ []) := by
  have hm : Hp.may T.length ⟨1, n, ⟨#[]⟩⟩ = true := h
  rw [Hp.tellT, if_pos hm]
  rfl
theorem fxA_run : run fxA [] 10 = ⟨0, ⟨#[]⟩, some (.mk 1 5 ⟨#[]⟩ []), 2⟩ := by
  obtain ⟨s, left, h⟩ : ∃ s left, go fxA 10 (start fxA []) = (s, left) := ⟨_, _, rfl⟩
  have h1 : s.e = 0 := by rw [show s = (go fxA 10 (start fxA [])).1 by rw [h]]; decide +kernel
  have h2 : s.out = [] := by rw [show s = (go fxA 10 (start fxA [])).1 by rw [h]]; decide +kernel
  have h3 : left = 8 := by rw [show left = (go fxA 10 (start fxA [])).2 by rw [h]]; decide +kernel
  have h4 : s.told.kind = 1 ∧ s.told.int = 5 ∧ s.told.text = ⟨#[]⟩ := by rw [show s = (go fxA 10 (start fxA [])).1 by rw [h]]; decide +kernel
  have := run_of (c := fxA) (inp := []) (n := 10) (by decide) (by decide +kernel) h
  rw [show run fxA [] 10 = run fxA [] ((10 : Nat) : Int) from rfl, this, h1, h2, h3]
  have h5 : Hp.tellT s.T s.told = some (.mk 1 5 ⟨#[]⟩ []) := by
    have hv : s.told = ⟨1, 5, ⟨#[]⟩⟩ := by
      revert h4
      generalize s.told = v
      rintro ⟨h1, h2, h3⟩
      obtain ⟨a, b, c⟩ := v
      dsimp only at h1 h2 h3
      rw [h1, h2, h3]
    rw [hv]
    exact tell_int s.T 5 (by decide +kernel)
  rw [if_pos rfl, h5]
  rfl
theorem fxB_run : ∃ o st, run fxB [] 10 = ⟨90, o, none, st⟩ := by
  obtain ⟨s, left, h⟩ : ∃ s left, go fxB 10 (start fxB []) = (s, left) := ⟨_, _, rfl⟩
  have h1 : s.e = 90 := by rw [show s = (go fxB 10 (start fxB [])).1 by rw [h]]; decide +kernel
  have := run_of (c := fxB) (inp := []) (n := 10) (by decide) (by decide +kernel) h
  rw [h1, if_neg (by decide)] at this
  exact ⟨_, _, this⟩
theorem fxC_run : ∃ o st, run fxC [] 10 = ⟨93, o, none, st⟩ := by
  obtain ⟨s, left, h⟩ : ∃ s left, go fxC 10 (start fxC []) = (s, left) := ⟨_, _, rfl⟩
  have h1 : s.e = 93 := by rw [show s = (go fxC 10 (start fxC [])).1 by rw [h]]; decide +kernel
  have := run_of (c := fxC) (inp := []) (n := 10) (by decide) (by decide +kernel) h
  rw [h1, if_neg (by decide)] at this
  exact ⟨_, _, this⟩
end Vm
end Go.Proofs.Ytalfnaielhbocaa
namespace Go.Proofs.Ytalfnaielhbocaa
open Go.RowKit
set_option linter.unusedVariables false
set_option linter.unusedSimpArgs false
set_option maxRecDepth 100000
namespace Vm
theorem codeD : ∃ fs, Try.prog.underlying 24 = some (.struct fs) := ⟨_, Try.underlying24⟩
theorem codeSize : (Try.prog.info? 24).map (·.size) = some 1 := by kernel_rfl
theorem row_one {α : Type} {w : World} {size b : Nat} {x : α} {R : α → Nat → Nat → Prop} (hb : b < w.heap.size) (h : R x b 0) : Row w (.slice (some ⟨b, 0, none⟩) 1 1) size [x] R :=
  ⟨_, 1, rfl, .inr ⟨b, 0, rfl, hb, fun j y hy => by
    cases j with
    | zero =>
      simp at hy
      subst hy
      rw [Nat.zero_mul]
      exact h
    | succ j => simp at hy⟩⟩
set_option maxHeartbeats 4000000 in
theorem one_any (regs : Int) (l : List Ins) (al : Option Addr) (cl : Nat) (x : Fin) (aa : Option Addr) (ca : Nat) (w : World) (hl : Row w (.slice al l.length cl) 8 l (InsC w)) (ha : Sl w (.slice aa x.args.length ca) (ints x.args)) :
    Calls Try.prog 17 #[.int .i64 regs, .slice al l.length cl, finV x (.slice aa x.args.length ca)] w fun e w' => ∃ b, e = .returned (.agg #[.slice (some ⟨b, 0, none⟩) 1 1]) ∧ CodeAt w' (.slice (some ⟨b, 0, none⟩) 1 1) (code1 regs l x) ∧ Below w.heap.size w w' := by
  have HL := Lib.hid hl
  have HA := Lib.hid ha
  clear hl ha
  unfold finV
  go_enter Try.func17, Try.ntmps17
  go_wp2_with fail
  generalize hW2 : (w.alloc (Obj.cells #[.int .i64 x.kind, .int .i64 x.reg, .slice aa x.args.length ca, .int .i64 x.to, .int .i64 x.next, .int .i64 x.els] 45)).alloc (Obj.cells #[.slice (some ⟨w.heap.size + 1 + 1 + 1, 0, none⟩) 1 1] 24) = W2
  have hs2 : W2.heap.size = w.heap.size + 1 + 1 := by rw [← hW2]; simp
  have hb2 : Below w.heap.size w W2 := by rw [← hW2]; exact ((Below.refl _ _).alloc (Nat.le_refl _) _).alloc (by simp) _
  have hc2 : W2.heap[w.heap.size + 1]? = some (.cells #[.slice (some ⟨w.heap.size + 1 + 1 + 1, 0, none⟩) 1 1] 24 (0, 0)) := by rw [← hW2]; exact heap_new (by simp)
  clear hW2
  generalize hW3 : W2.alloc (Obj.cells #[.slice al l.length cl, .int .i64 x.kind, .int .i64 x.reg, .slice aa x.args.length ca, .int .i64 x.to, .int .i64 x.next, .int .i64 x.els] 48) = W3
  have hs3 : W3.heap.size = w.heap.size + 1 + 1 + 1 := by rw [← hW3]; simp [hs2]
  have hb3 : Below W2.heap.size W2 W3 := by rw [← hW3]; exact (Below.refl _ _).alloc (Nat.le_refl _) _
  have hc3 : W3.heap[w.heap.size + 1 + 1]? = some (.cells #[.slice al l.length cl, .int .i64 x.kind, .int .i64 x.reg, .slice aa x.args.length ca, .int .i64 x.to, .int .i64 x.next, .int .i64 x.els] 48 (0, 0)) := by rw [← hW3]; exact heap_new (by rw [hs2])
  clear hW3
  generalize hW4 : W3.alloc (Obj.cells #[.int .i64 0, .int .i64 0, .int .i64 regs, .slice (some ⟨w.heap.size + 1 + 1, 0, none⟩) 1 1] 40) = W4
  have hs4 : W4.heap.size = w.heap.size + 1 + 1 + 1 + 1 := by rw [← hW4]; simp [hs3]
  have hb4 : Below W3.heap.size W3 W4 := by rw [← hW4]; exact (Below.refl _ _).alloc (Nat.le_refl _) _
  have hc4 : W4.heap[w.heap.size + 1 + 1 + 1]? = some (.cells #[.int .i64 0, .int .i64 0, .int .i64 regs, .slice (some ⟨w.heap.size + 1 + 1, 0, none⟩) 1 1] 40 (0, 0)) := by rw [← hW4]; exact heap_new (by rw [hs3])
  clear hW4
  have hb : Below w.heap.size w W4 := (hb2.trans (hb3.mono hb2.size)).trans (hb4.mono (by omega))
  have hq2 : W4.heap[w.heap.size + 1]? = some (.cells #[.slice (some ⟨w.heap.size + 1 + 1 + 1, 0, none⟩) 1 1] 24 (0, 0)) := (hb4.block _ (by omega)).trans ((hb3.block _ (by omega)).trans hc2)
  have hq3 := (hb4.block (w.heap.size + 1 + 1) (by omega)).trans hc3
  refine bodyPost_ret (res1 rfl _ _ (w.heap.size + 1) 24 _ (0, 0) rfl hq2 codeD codeSize) rfl ?_
  refine ⟨w.heap.size + 1 + 1 + 1, rfl, row_one (by omega) ⟨cell_of_row _ _ 0 _ _ _ hc4, cell_of_row _ _ 1 _ _ _ hc4, cell_of_row _ _ 2 _ _ _ hc4, _, cell_of_row _ _ 3 _ _ _ hc4, row_one (by omega) ?_⟩, hb⟩
  exact ⟨⟨_, cell_of_row _ _ 0 _ _ _ hq3, HL.out.mono hb.size fun y _ b o hlt h => h.bel hb hlt⟩, cell_of_row _ _ 1 _ _ _ hq3, cell_of_row _ _ 2 _ _ _ hq3, ⟨_, cell_of_row _ _ 3 _ _ _ hq3, HA.out.below hb (Nat.le_refl _)⟩, cell_of_row _ _ 4 _ _ _ hq3, cell_of_row _ _ 5 _ _ _ hq3, cell_of_row _ _ 6 _ _ _ hq3⟩
theorem lnum_any (n : Int) (w : World) : Calls Try.prog 16 #[.int .i64 n] w fun e w' => e = .returned (.agg #[.int .i64 1, .int .i64 n, .string ⟨#[]⟩, .slice none 0 0]) ∧ Below w.heap.size w w' := by
  go_enter Try.func16, Try.ntmps16
  go_wp2_with fail
  refine bodyPost_ret (res1 rfl _ _ w.heap.size 31 _ (0, 0) rfl (heap_new (by simp)) datumD datumSize) rfl ?_
  exact ⟨rfl, (Below.refl _ _).alloc (Nat.le_refl _) _⟩
end Vm
end Go.Proofs.Ytalfnaielhbocaa
namespace Go.Proofs.Ytalfnaielhbocaa
open Go.RowKit
set_option linter.unusedVariables false
set_option linter.unusedSimpArgs false
set_option maxRecDepth 100000
namespace Vm
theorem fit_leaf (k i : Int) (t : ByteArray) (h : t.size ≤ maxLen) : Dt.Fit (.mk k i t []) := .mk k i t [] h (by simp) (by simp)
theorem fxA_fit : ∀ p ∈ fxA, PrcFit p := by
  intro p hp
  simp [fxA, code1] at hp
  subst hp
  refine ⟨by decide, fun b hb => ?_⟩
  simp at hb
  subst hb
  refine ⟨by decide, by decide, fun x hx => ?_⟩
  simp at hx
  subst hx
  exact ⟨by decide, fit_leaf _ _ _ (by decide)⟩
theorem fx0_fit (x : Fin) (hx : x.args.length ≤ 9223372036854775807) : ∀ p ∈ code1 1 [] x, PrcFit p := by
  intro p hp
  simp [code1] at hp
  subst hp
  refine ⟨by simp, fun b hb => ?_⟩
  simp at hb
  subst hb
  exact ⟨by simp, hx, fun x hx => by simp at hx⟩
theorem sl_nil (w : World) : Sl w (.slice none 0 0) (ints []) := ⟨none, 0, rfl, .inl ⟨rfl, rfl, rfl⟩⟩
theorem row_nil {α : Type} (w : World) (size : Nat) (R : α → Nat → Nat → Prop) : Row w (.slice none 0 0) size ([] : List α) R := ⟨none, 0, rfl, .inl rfl⟩
abbrev outV (e : Int) (o : ByteArray) (k i : Int) (t : ByteArray) (lv : Value) (ok : Bool) (n : Int) : Value := .agg #[.int .i64 e, .string o, .int .i64 k, .int .i64 i, .string t, lv, .bool ok, .int .i64 n]
theorem fx_oneA (w : World) : Calls Try.prog 17 #[.int .i64 1, .slice (some ⟨w.heap.size, 0, none⟩) 1 1, .agg #[.int .i64 2, .int .i64 0, .slice none 0 0, .int .i64 0, .int .i64 0, .int .i64 0]]
    (w.alloc (.cells #[.string ⟨#[99, 111, 110, 115, 116]⟩, .int .i64 0, .slice none 0 0, .int .i64 1, .int .i64 5, .string ⟨#[]⟩, .slice none 0 0, .int .i64 0] 55)) fun e w' => ∃ b, e = .returned (.agg #[.slice (some ⟨b, 0, none⟩) 1 1]) ∧ CodeAt w' (.slice (some ⟨b, 0, none⟩) 1 1) fxA ∧ Below w.heap.size w w' := by
  generalize hW : w.alloc (.cells #[.string ⟨#[99, 111, 110, 115, 116]⟩, .int .i64 0, .slice none 0 0, .int .i64 1, .int .i64 5, .string ⟨#[]⟩, .slice none 0 0, .int .i64 0] 55) = W
  have hs : W.heap.size = w.heap.size + 1 := by rw [← hW]; simp
  have hb : Below w.heap.size w W := by rw [← hW]; exact (Below.refl _ _).alloc (Nat.le_refl _) _
  have hc : W.heap[w.heap.size]? = some (.cells #[.string ⟨#[99, 111, 110, 115, 116]⟩, .int .i64 0, .slice none 0 0, .int .i64 1, .int .i64 5, .string ⟨#[]⟩, .slice none 0 0, .int .i64 0] 55 (0, 0)) := by rw [← hW]; exact heap_new rfl
  clear hW
  have hrow : Row W (.slice (some ⟨w.heap.size, 0, none⟩) 1 1) 8 [(⟨sConst, 0, [], .mk 1 5 ⟨#[]⟩ [], 0⟩ : Ins)] (InsC W) :=
    row_one (by omega) ⟨cell_of_row _ _ 0 _ _ _ hc, cell_of_row _ _ 1 _ _ _ hc, ⟨_, cell_of_row _ _ 2 _ _ _ hc, sl_nil _⟩, cell_of_row _ _ 3 _ _ _ hc, cell_of_row _ _ 4 _ _ _ hc, cell_of_row _ _ 5 _ _ _ hc, ⟨_, cell_of_row _ _ 6 _ _ _ hc, .nil _ _ _⟩, cell_of_row _ _ 7 _ _ _ hc⟩
  refine Calls.mono (one_any 1 [⟨sConst, 0, [], .mk 1 5 ⟨#[]⟩ [], 0⟩] _ 1 ⟨2, 0, [], 0, 0, 0⟩ none 0 W hrow (sl_nil _)) ?_
  rintro e w' ⟨b, rfl, h1, h2⟩
  exact ⟨b, rfl, h1, hb.trans (h2.mono (by omega))⟩
theorem fx_one0 (k : Int) (w : World) : Calls Try.prog 17 #[.int .i64 1, .slice none 0 0, .agg #[.int .i64 k, .int .i64 0, .slice none 0 0, .int .i64 0, .int .i64 0, .int .i64 0]] w fun e w' => ∃ b, e = .returned (.agg #[.slice (some ⟨b, 0, none⟩) 1 1]) ∧ CodeAt w' (.slice (some ⟨b, 0, none⟩) 1 1) (code1 1 [] ⟨k, 0, [], 0, 0, 0⟩) ∧ Below w.heap.size w w' :=
  one_any 1 [] none 0 ⟨k, 0, [], 0, 0, 0⟩ none 0 w (row_nil _ _ _) (sl_nil _)
theorem fx_runA (b : Nat) (w : World) (h : CodeAt w (.slice (some ⟨b, 0, none⟩) 1 1) fxA) : Calls Try.prog 11 #[.agg #[.slice (some ⟨b, 0, none⟩) 1 1], .string ⟨#[]⟩, .int .i64 10] w
    fun e w' => ∃ a c, e = .returned (outV 0 ⟨#[]⟩ 1 5 ⟨#[]⟩ (.slice a 0 c) true 2) ∧ DtAt w' (fun b => w.heap.size ≤ b) (.agg #[.int .i64 1, .int .i64 5, .string ⟨#[]⟩, .slice a 0 c]) (.mk 1 5 ⟨#[]⟩ []) ∧ Below w.heap.size w w' := by
  have hl : fxA.length ≤ 1000000000000000 := by simp [fxA, code1]
  have H := Run_any [] 10 (some ⟨b, 0, none⟩) 1 (.inl (by decide)) h hl fxA_fit
  have e1 : fxA.length = 1 := rfl
  rw [e1] at H
  refine H.mono ?_
  rintro e w' ⟨d, a, c, rfl, hd, hb, hr⟩
  rw [fxA_run] at hr ⊢
  simp only [Option.getD_some] at hr
  subst hr
  exact ⟨a, c, rfl, hd, hb⟩
theorem fx_run0 (x : Fin) (hx : x.args.length ≤ 9223372036854775807) (E : Int) (hr : ∃ o st, run (code1 1 [] x) [] 10 = ⟨E, o, none, st⟩) (b : Nat) (w : World) (h : CodeAt w (.slice (some ⟨b, 0, none⟩) 1 1) (code1 1 [] x)) : Calls Try.prog 11 #[.agg #[.slice (some ⟨b, 0, none⟩) 1 1], .string ⟨#[]⟩, .int .i64 10] w
    fun e w' => ∃ o k i t la ln lc n, e = .returned (outV E o k i t (.slice la ln lc) false n) ∧ Below w.heap.size w w' := by
  obtain ⟨o, st, hr⟩ := hr
  have hl : (code1 1 [] x).length ≤ 1000000000000000 := by simp [code1]
  have H := Run_any [] 10 (some ⟨b, 0, none⟩) 1 (.inl (by decide)) h hl (fx0_fit x hx)
  have e1 : (code1 1 [] x).length = 1 := rfl
  rw [e1] at H
  refine H.mono ?_
  rintro e w' ⟨d, a, c, rfl, hd, hb, hd2⟩
  rw [hr]
  exact ⟨o, _, _, _, _, _, _, st, rfl, hb⟩
theorem chk_nil (w : World) : Calls Try.prog 9 #[.agg #[.slice none 0 0]] w fun e w' => e = .returned (.int .i64 150) ∧ Below w.heap.size w w' :=
  Check_any (c := []) none 0 (row_nil _ _ _) (by decide) (fun p hp => by simp at hp)
abbrev FxS (w : World) (b1 b2 b3 : Nat) (lv : Value) : Prop := w.cell? ⟨b1, 0, none⟩ = some (.int .i64 0) ∧ w.cell? ⟨b1, 6, none⟩ = some (.bool true) ∧ w.cell? ⟨b1, 2, none⟩ = some (.int .i64 1) ∧ w.cell? ⟨b1, 3, none⟩ = some (.int .i64 5) ∧ w.cell? ⟨b1, 4, none⟩ = some (.string ⟨#[]⟩) ∧ w.cell? ⟨b1, 5, none⟩ = some lv ∧ w.cell? ⟨b1, 7, none⟩ = some (.int .i64 2) ∧ w.cell? ⟨b2, 0, none⟩ = some (.int .i64 90) ∧ w.cell? ⟨b3, 0, none⟩ = some (.int .i64 93)
theorem FxS.bel {w w' : World} {b1 b2 b3 : Nat} {lv : Value} (h : FxS w b1 b2 b3 lv) (hb : Below w.heap.size w w') (h1 : b1 < w.heap.size ∧ b2 < w.heap.size ∧ b3 < w.heap.size) : FxS w' b1 b2 b3 lv := by
  obtain ⟨l1, l2, l3⟩ := h1
  obtain ⟨c0, c1, c2, c3, c4, c5, c6, c7, c8⟩ := h
  exact ⟨(cell_bel hb l1).trans c0, (cell_bel hb l1).trans c1, (cell_bel hb l1).trans c2, (cell_bel hb l1).trans c3, (cell_bel hb l1).trans c4, (cell_bel hb l1).trans c5, (cell_bel hb l1).trans c6, (cell_bel hb l2).trans c7, (cell_bel hb l3).trans c8⟩
set_option maxHeartbeats 8000000 in
theorem fixed_any (w : World) : Calls Try.prog 8 #[] w fun e w' => e = .returned (.bool true) ∧ Below w.heap.size w w' := by
  have HFXB : Hid (∃ o st, run (code1 1 [] ⟨3, 0, [], 0, 0, 0⟩) [] 10 = ⟨90, o, none, st⟩) := fxB_run
  have HFXC : Hid (∃ o st, run (code1 1 [] ⟨0, 0, [], 0, 0, 0⟩) [] 10 = ⟨93, o, none, st⟩) := fxC_run
  go_enter Try.func8, Try.ntmps8
  go_wp2_with fail
  with_reducible refine (lnum_any 5 _).mono ?_
  rintro e w1 ⟨rfl, hb1⟩
  have HB1 := Lib.hid hb1
  clear hb1
  go_wp2_with fail
  with_reducible refine (fx_oneA w1).mono ?_
  rintro e w2 ⟨b2, rfl, hc2, hb2⟩
  have HC2 := Lib.hid hc2
  have HB2 := Lib.hid (HB1.out.trans (hb2.mono HB1.out.size))
  clear hb2 hc2
  go_wp2_with fail
  with_reducible refine (fx_runA b2 w2 HC2.out).mono ?_
  rintro e w3 ⟨a3, c3, rfl, hd3, hb3⟩
  have HD3 := Lib.hid hd3
  have HB3 := Lib.hid (HB2.out.trans (hb3.mono HB2.out.size))
  clear hb3 hd3
  obtain ⟨w4, B4⟩ := boxed w3 #[.int .i64 0, .string ⟨#[]⟩, .int .i64 1, .int .i64 5, .string ⟨#[]⟩, .slice a3 0 c3, .bool true, .int .i64 2] 33
  have HX4 := Lib.hid B4
  have HQ4 := Lib.hid B4.below
  have hs4 := B4.size
  clear B4
  go_wp2_with fail
  rw [← HX4.out.eq]
  with_reducible refine (fx_one0 3 w4).mono ?_
  rintro e w5 ⟨b5, rfl, hc5, hb5⟩
  have HC5 := Lib.hid hc5
  have HQ5 := Lib.hid (HQ4.out.trans (hb5.mono HQ4.out.size))
  have HR5 := Lib.hid hb5
  have HL5 : Hid (w3.heap.size + 1 ≤ w5.heap.size) := by have := hb5.size; exact (by omega : w3.heap.size + 1 ≤ w5.heap.size)
  clear hc5 hb5
  go_wp2_with fail
  with_reducible refine (fx_run0 ⟨3, 0, [], 0, 0, 0⟩ (by decide) 90 HFXB.out b5 w5 HC5.out).mono ?_
  rintro e w6 ⟨o6, k6, i6, t6, la6, ln6, lc6, n6, rfl, hb6⟩
  have HQ6 := Lib.hid (HQ5.out.trans (hb6.mono HQ5.out.size))
  have HR6 := Lib.hid (HR5.out.trans (hb6.mono HR5.out.size))
  have HL6 : Hid (w3.heap.size + 1 ≤ w6.heap.size) := Nat.le_trans HL5.out hb6.size
  clear hb6
  obtain ⟨w7, B7⟩ := boxed w6 #[.int .i64 90, .string o6, .int .i64 k6, .int .i64 i6,   .string t6, .slice la6 ln6 lc6, .bool false, .int .i64 n6] 33
  have HX7 := Lib.hid B7
  have HQ7 := Lib.hid (HQ6.out.trans (B7.below.mono HQ6.out.size))
  have hs7 := B7.size
  clear B7
  go_wp2_with fail
  rw [← HX7.out.eq]
  with_reducible refine (fx_one0 0 w7).mono ?_
  rintro e w8 ⟨b8, rfl, hc8, hb8⟩
  have HC8 := Lib.hid hc8
  have HB8 := Lib.hid hb8
  clear hc8 hb8
  go_wp2_with fail
  with_reducible refine (fx_run0 ⟨0, 0, [], 0, 0, 0⟩ (by decide) 93 HFXC.out b8 w8 HC8.out).mono ?_
  rintro e w9 ⟨o9, k9, i9, t9, la9, ln9, lc9, n9, rfl, hb9⟩
  have HB9 := Lib.hid (HB8.out.trans (hb9.mono HB8.out.size))
  have HL9 : Hid (w6.heap.size + 1 ≤ w9.heap.size) := by have := HB9.out.size; exact (by omega : w6.heap.size + 1 ≤ w9.heap.size)
  clear hb9
  obtain ⟨w10, B10⟩ := boxed w9 #[.int .i64 93, .string o9, .int .i64 k9, .int .i64 i9,   .string t9, .slice la9 ln9 lc9, .bool false, .int .i64 n9] 33
  have HX10 := Lib.hid B10
  have HB10 := Lib.hid (HB9.out.trans (B10.below.mono HB9.out.size))
  have hs10 := B10.size
  clear B10
  have HQ10 := Lib.hid (HQ7.out.trans (HB10.out.mono HQ7.out.size))
  have HFS : Hid (FxS w10 w3.heap.size w6.heap.size w9.heap.size (.slice a3 0 c3)) := by
    have l6 := HL6.out
    have l9 := HL9.out
    have q1 : w10.heap[w3.heap.size]? = _ := (HX10.out.below.block _ (by omega)).trans ((HB9.out.block _ (by omega)).trans ((HX7.out.below.block _ (by omega)).trans ((HR6.out.block _ (by omega)).trans HX4.out.blk)))
    have q2 : w10.heap[w6.heap.size]? = _ := (HX10.out.below.block _ (by omega)).trans ((HB9.out.block _ (by omega)).trans HX7.out.blk)
    have q3 := HX10.out.blk
    exact ⟨cell_of_row _ _ 0 _ _ _ q1, cell_of_row _ _ 6 _ _ _ q1, cell_of_row _ _ 2 _ _ _ q1, cell_of_row _ _ 3 _ _ _ q1, cell_of_row _ _ 4 _ _ _ q1, cell_of_row _ _ 5 _ _ _ q1, cell_of_row _ _ 7 _ _ _ q1, cell_of_row _ _ 0 _ _ _ q2, cell_of_row _ _ 0 _ _ _ q3⟩
  have HL10 : Hid (w3.heap.size < w10.heap.size ∧ w6.heap.size < w10.heap.size ∧ w9.heap.size < w10.heap.size) := by
    have := HL6.out
    have := HL9.out
    exact ⟨by omega, by omega, by omega⟩
  have HSH : Hid (Dt.Short (.mk 1 5 ⟨#[]⟩ [])) := Dt.short_of (by simp [Dt.nodes, Dt.nodess])
  have HD10 : Hid (DtAt w10 (fun b => w2.heap.size ≤ b) (.agg #[.int .i64 1, .int .i64 5, .string ⟨#[]⟩, .slice a3 0 c3]) (.mk 1 5 ⟨#[]⟩ [])) := HD3.out.bel HQ10.out (Nat.le_refl _)
  have HB10w := Lib.hid (HB3.out.trans (HQ10.out.mono HB3.out.size))
  clear HX4 HX7 HQ4 HQ5 HR5 HQ6 HR6 HQ7 HB8 HB9 HB10 HQ10 HD3 HL5 HL6 HL9 HC2 HC5 HC8 HB1 HB2 HB3
  go_wp2_with fail
  rw [← HX10.out.eq]
  go_region_held3 (fun w' => w'.cell? ⟨w3.heap.size, 0, none⟩ = some (.int .i64 0) ∧ w'.cell? ⟨w3.heap.size, 6, none⟩ = some (.bool true) ∧ w'.cell? ⟨w3.heap.size, 2, none⟩ = some (.int .i64 1) ∧ w'.cell? ⟨w3.heap.size, 3, none⟩ = some (.int .i64 5) ∧ w'.cell? ⟨w3.heap.size, 4, none⟩ = some (.string ⟨#[]⟩) ∧ w'.cell? ⟨w3.heap.size, 5, none⟩ = some (.slice a3 0 c3) ∧ w'.cell? ⟨w3.heap.size, 7, none⟩ = some (.int .i64 2) ∧ w'.cell? ⟨w6.heap.size, 0, none⟩ = some (.int .i64 90) ∧ w'.cell? ⟨w9.heap.size, 0, none⟩ = some (.int .i64 93))
    (first | with_reducible exact HFS.out | with_reducible exact HF11.out | with_reducible exact HF12.out | with_reducible exact HF13.out | exact HFS.out)
    (first
      | (go_at_call 16; (with_reducible refine (lnum_any 5 _).mono ?_); rintro e w11 ⟨rfl, hb11⟩; have hb11' := (below_drewN (Below.refl w10.heap.size w10) 1).trans hb11; have HB11 := Lib.hid hb11'; have HF11 := Lib.hid (FxS.bel HFS.out hb11' HL10.out); clear hb11 hb11')
      | (go_at_call 15; (with_reducible refine (same_any (.mk 1 5 ⟨#[]⟩ []) (.mk 1 5 ⟨#[]⟩ []) _ _ w11 HSH.out HSH.out ((HD10.out.bel HB11.out (Nat.le_refl _)).mono fun _ _ _ => trivial) (.nil _ _ _)).mono ?_); rintro e w12 ⟨rfl, hb12⟩; have hb12' := HB11.out.trans (hb12.mono HB11.out.size); have HB12 := Lib.hid hb12'; have HF12 := Lib.hid (FxS.bel HFS.out hb12' HL10.out); clear hb12 hb12')
      | (go_at_call 9; (with_reducible refine (chk_nil w12).mono ?_); rintro e w13 ⟨rfl, hb13⟩; have hb13' := HB12.out.trans (hb13.mono HB12.out.size); have HB13 := Lib.hid hb13'; have HF13 := Lib.hid (FxS.bel HFS.out hb13' HL10.out); clear hb13 hb13'))
  go_wp2_with fail
  go_ret
  exact ⟨rfl, HB10w.out.trans (HB13.out.mono HB10w.out.size)⟩
end Vm
end Go.Proofs.Ytalfnaielhbocaa
namespace Go.Proofs.Ytalfnaielhbocaa
open Go.RowKit
set_option linter.unusedVariables false
set_option linter.unusedSimpArgs false
set_option maxRecDepth 100000
mutual
theorem Dt.same_self : ∀ d : Dt, Dt.same d d = true
  | .mk k i t l => by
    rw [Dt.same, Dt.sames_self l]
    simp
theorem Dt.sames_self : ∀ l : List Dt, Dt.sames l l = true
  | [] => by rw [Dt.sames]
  | x :: l => by
    rw [Dt.sames, Dt.same_self x, Dt.sames_self l]
    rfl
end
namespace Vm
theorem tellT_short {T : List Hp.Th} {v : Hp.V} : Dt.Short ((Hp.tellT T v).getD (.mk 0 0 ⟨#[]⟩ [])) := by
  apply Dt.short_of
  unfold Hp.tellT
  split
  · cases h : Hp.tellF T 200 v 0 200 with
    | none => simp [Dt.nodes, Dt.nodess]
    | some x =>
      have := Hp.tellF_fits T 200 v 0 200 x h
      simp
      omega
  · simp [Dt.nodes, Dt.nodess]
theorem run_short (c : Code) (inp : List UInt8) (steps : Int) : Dt.Short ((run c inp steps).shown.getD (.mk 0 0 ⟨#[]⟩ [])) := by
  have h0 : Dt.Short (.mk 0 0 ⟨#[]⟩ []) := Dt.short_of (by simp [Dt.nodes, Dt.nodess])
  unfold run
  split
  · exact h0
  · split
    · exact h0
    · dsimp only
      split
      · exact tellT_short
      · exact h0
set_option maxHeartbeats 4000000 in
theorem same9_yes (e : Int) (o : ByteArray) (d : Dt) (l1 l2 : Value) (ok : Bool) (st : Int) (w : World) (hs : Dt.Short d)
    (h1 : DtAt w (fun _ => True) (.agg #[.int .i64 d.kind, .int .i64 d.int, .string d.text, l1]) d) (h2 : DtAt w (fun _ => True) (.agg #[.int .i64 d.kind, .int .i64 d.int, .string d.text, l2]) d) :
    Calls Try.prog 12 #[.agg (outCells e o d l1 ok st), .agg (outCells e o d l2 ok st)] w fun e w' => e = .returned (.bool true) ∧ Below w.heap.size w w' := by
  unfold outCells
  have H1 := Lib.hid h1
  have H2 := Lib.hid h2
  have HS := Lib.hid hs
  clear h1 h2 hs
  obtain ⟨w1, B1⟩ := boxed w #[.int .i64 e, .string o, .int .i64 d.kind, .int .i64 d.int, .string d.text, l1, .bool ok, .int .i64 st] 33
  obtain ⟨w2, B2⟩ := boxed w1 #[.int .i64 e, .string o, .int .i64 d.kind, .int .i64 d.int, .string d.text, l2, .bool ok, .int .i64 st] 33
  have hs1 := B1.size
  have hB2 : Below w.heap.size w w2 := B1.below.trans (B2.below.mono B1.below.size)
  have HC0 := same_any d d _ _ w2 HS.out HS.out (H1.out.bel hB2 (Nat.le_refl _)) (H2.out.bel hB2 (Nat.le_refl _))
  rw [Dt.same_self] at HC0
  have HC := Lib.hid HC0
  have HB := Lib.hid hB2
  have HB1 := Lib.hid B1
  have HB2 := Lib.hid B2
  clear HC0 hB2 B1 B2
  go_enter Try.func12, Try.ntmps12
  go_wp2_with fail
  rw [← HB1.out.eq, ← HB2.out.eq]
  with_reducible refine HC.out.mono ?_
  rintro e w3 ⟨rfl, hb3⟩
  have HB3 := Lib.hid (HB.out.trans (hb3.mono HB.out.size))
  clear hb3
  go_wp2_with fail
  go_ret
  exact ⟨rfl, HB3.out⟩
end Vm
end Go.Proofs.Ytalfnaielhbocaa
namespace Go.Proofs.Ytalfnaielhbocaa
open Go.RowKit
set_option linter.unusedVariables false
set_option linter.unusedSimpArgs false
namespace Vm
theorem goN_zero (c : Code) (s : St) : go c 0 s = if s.e = 0 ∧ s.done = false then ({ s with e := 93 }, 0) else (s, 0) := rfl
theorem goN_succ (c : Code) (n : Nat) (s : St) : go c (n + 1) s = if s.e = 0 ∧ s.done = false then go c n (step c s) else (s, n + 1) := rfl
end Vm
end Go.Proofs.Ytalfnaielhbocaa
namespace Go.Proofs.Ytalfnaielhbocaa
open Go.RowKit
set_option linter.unusedVariables false
set_option linter.unusedSimpArgs false
set_option maxRecDepth 100000
namespace Vm
theorem as_list (s : ByteArray) : ∃ l : List UInt8, s = ⟨l.toArray⟩ := ⟨s.data.toList, by cases s; simp⟩
structure LawIn (W : World) (al : Option Addr) (cl : Nat) (c : Code) : Prop where
  at' : CodeAt W (.slice al c.length cl) c
  len : c.length ≤ 1000000000000000
  fit : ∀ p ∈ c, PrcFit p
theorem LawIn.run {W w : World} {al : Option Addr} {cl : Nat} {c : Code} (h : LawIn W al cl c) (hb : Below W.heap.size W w) (l : List UInt8) (n : Int) (hn : n ≤ 800000 ∨ 1000000 < n) :
    Calls Try.prog 11 #[.agg #[.slice al c.length cl], .string ⟨l.toArray⟩, .int .i64 n] w (OutPost (run c l n) w) :=
  Run_any l n al cl hn (h.at'.bel hb) h.len h.fit
structure OutB (w : World) (g : Nat) (o : Out) (d : Dt) (lv : Value) : Prop where
  blk : w.heap[g]? = some (.cells (outCells o.e o.out d lv o.shown.isSome o.steps) 33 (0, 0))
  dt : DtAt w (fun _ => True) (.agg #[.int .i64 d.kind, .int .i64 d.int, .string d.text, lv]) d
theorem OutB.bel {w w' : World} {g : Nat} {o : Out} {d : Dt} {lv : Value} (h : OutB w g o d lv) (hb : Below w.heap.size w w') : OutB w' g o d lv :=
  ⟨(hb.block g (Array.getElem?_eq_some_iff.1 h.blk).1).trans h.blk, h.dt.bel hb (Nat.le_refl _)⟩
theorem OutB.lt {w : World} {g : Nat} {o : Out} {d : Dt} {lv : Value} (h : OutB w g o d lv) : g < w.heap.size := (Array.getElem?_eq_some_iff.1 h.blk).1
theorem OutB.c {w : World} {g : Nat} {o : Out} {d : Dt} {lv : Value} (h : OutB w g o d lv) : Res8 w g (.int .i64 o.e) (.string o.out) (.int .i64 d.kind) (.int .i64 d.int) (.string d.text) lv (.bool o.shown.isSome) (.int .i64 o.steps) := Res8.of h.blk
end Vm
end Go.Proofs.Ytalfnaielhbocaa
namespace Go.Proofs.Ytalfnaielhbocaa
open Go.RowKit
set_option linter.unusedVariables false
set_option linter.unusedSimpArgs false
namespace Vm
structure Turn where
  nm : Nat → Int → Int
  row : Nat → List Hp.V → List Hp.V
def Turn.fr (t : Turn) (f : Fr) : Fr := ⟨f.proc, t.row f.proc f.regs, f.cl, (t.nm f.proc f.to).toNat, f.next⟩
def Turn.cl (t : Turn) (k : Cl) : Cl := { k with frs := k.frs.map t.fr }
def Turn.st (t : Turn) (s : St) : St := { s with regs := t.row s.proc s.regs, frs := s.frs.map t.fr, cls := s.cls.map t.cl }
def Turn.ins (t : Turn) (p : Nat) (x : Ins) : Ins := ⟨x.op, if x.op = sTie then x.to else t.nm p x.to, x.args.map (t.nm p), x.const, x.num⟩
def Turn.fin (t : Turn) (p : Nat) (x : Fin) : Fin := ⟨x.kind, if x.kind = 0 then x.reg else t.nm p x.reg, x.args.map (t.nm p), if x.kind = 4 ∨ x.kind = 6 then t.nm p x.to else x.to, x.next, x.els⟩
def Turn.blk (t : Turn) (p : Nat) (b : Blk) : Blk := ⟨b.ins.map (t.ins p), t.fin p b.fin⟩
structure Turn.Fits (t : Turn) (c d : Code) : Prop where
  prc : ∀ (i : Nat) (p : Prc), c[i]? = some p → ∃ q, d[i]? = some q ∧ q.params = p.params ∧ (∀ (j : Nat) (b : Blk), p.blocks[j]? = some b → q.blocks[j]? = some (t.blk i b)) ∧
    (∀ a : List Hp.V, (a.length : Int) = p.params → t.row i (a ++ List.replicate (p.regs.toNat - a.length) unset) = a ++ List.replicate (q.regs.toNat - a.length) unset)
  pos : ∀ (i : Nat) (p : Prc) (r : Int), c[i]? = some p → 0 ≤ r → r < p.regs → 0 ≤ t.nm i r
  get : ∀ (i : Nat) (p : Prc) (l : List Hp.V) (r : Int), c[i]? = some p → (l.length : Int) = p.regs → 0 ≤ r → r < p.regs → (t.row i l).getD (t.nm i r).toNat Hp.none = l.getD r.toNat Hp.none
  set : ∀ (i : Nat) (p : Prc) (l : List Hp.V) (r : Int) (v : Hp.V), c[i]? = some p → (l.length : Int) = p.regs → 0 ≤ r → r < p.regs → (t.row i l).set (t.nm i r).toNat v = t.row i (l.set r.toNat v)
section
variable {t : Turn} {c d : Code}
theorem look_turn (t : Turn) (C : List Cl) (k : Int) : look (C.map t.cl) k = (look C k).map t.cl := by
  unfold look
  rw [List.find?_map]
  rfl
theorem find_turn (t : Turn) (C : List Cl) (v : Hp.V) : find (C.map t.cl) v = (find C v).map t.cl := by
  unfold find
  split
  · exact look_turn t C v.int
  · rfl
theorem held_turn (t : Turn) (s : St) : (t.st s).held = s.held := by
  unfold St.held
  show (match look (s.cls.map t.cl) s.cl with | some k => k.held | none => []) = _
  rw [look_turn]
  cases look s.cls s.cl <;> rfl
theorem tied_turn (t : Turn) (C : List Cl) (k i : Nat) (v : Hp.V) : tied (C.map t.cl) k i v = (tied C k i v).map t.cl := by
  unfold tied
  rw [List.map_map, List.map_map]
  apply List.map_congr_left
  intro x _
  show (if x.key = k then { t.cl x with held := (t.cl x).held.set i v } else t.cl x) = t.cl (if x.key = k then { x with held := x.held.set i v } else x)
  split <;> rfl
theorem vals_turn (hf : t.Fits c d) {i : Nat} {p : Prc} {l : List Hp.V} {a : List Int} (hp : c[i]? = some p) (hl : (l.length : Int) = p.regs) (ha : ∀ r ∈ a, 0 ≤ r ∧ r < p.regs) : vals (t.row i l) (a.map (t.nm i)) = vals l a := by
  unfold vals
  rw [List.map_map]
  apply List.map_congr_left
  intro r hr
  exact hf.get i p l r hp hl (ha r hr).1 (ha r hr).2
theorem setR_turn (hf : t.Fits c d) {s : St} {p : Prc} {r : Int} {v : Hp.V} (hp : c[s.proc]? = some p) (hl : (s.regs.length : Int) = p.regs) (h0 : 0 ≤ r) (h1 : r < p.regs) : (t.st s).setR (t.nm s.proc r) v = t.st (s.setR r v) := by
  unfold St.setR Turn.st
  dsimp only
  rw [hf.set s.proc p s.regs r v hp hl h0 h1]
theorem made_turn (t : Turn) (s : St) (proc : Nat) (held : List Hp.V) (kont : Bool) (frs : List Fr) : (t.st s).made proc held kont (frs.map t.fr) = t.st (s.made proc held kont frs) := by
  unfold St.made Turn.st
  dsimp only
  rw [List.map_append]
  rfl
theorem prim_turn (t : Turn) (s : St) (p : ByteArray) (a : List Hp.V) : prim (t.st s) p a = ((prim s p a).1, t.st (prim s p a).2) := by
  unfold prim
  split
  · show (match s.input with | [] => _ | b :: l => _) = _
    cases s.input <;> rfl
  · split
    · dsimp only
      split
      · rfl
      · split <;> rfl
    · split
      · rfl
      · split
        · rfl
        · split <;> rfl
theorem doI_turn (hf : t.Fits c d) {s : St} {p : Prc} {x : Ins} (hp : c[s.proc]? = some p) (hl : (s.regs.length : Int) = p.regs) (hx : insB c p x = true) : doI (t.st s) (t.ins s.proc x) = t.st (doI s x) := by
  obtain ⟨f1, f2, f3, f4, f5, f6, f7, f8⟩ := insB_facts hx
  have hv : vals (t.st s).regs (t.ins s.proc x).args = vals s.regs x.args := vals_turn hf hp hl f3
  have hto : x.op ≠ sTie → (t.ins s.proc x).to = t.nm s.proc x.to := fun h => by
    show (if x.op = sTie then x.to else t.nm s.proc x.to) = _
    rw [if_neg h]
  have hset : ∀ v, x.op ≠ sTie → (t.st s).setR (t.ins s.proc x).to v = t.st (s.setR x.to v) := fun v h => by
    rw [hto h]
    exact setR_turn hf hp hl (f2 h).1 (f2 h).2
  have n1 : sConst ≠ sTie := by decide
  have n2 : sMove ≠ sTie := by decide
  have n3 : sHeld ≠ sTie := by decide
  have n4 : sClosure ≠ sTie := by decide
  unfold doI
  rw [hv, held_turn]
  have eop : (t.ins s.proc x).op = x.op := rfl
  have ec : (t.ins s.proc x).const = x.const := rfl
  have en : (t.ins s.proc x).num = x.num := rfl
  rw [eop, ec, en]
  by_cases e1 : x.op = sConst
  · rw [if_pos e1, if_pos e1]
    exact hset _ (e1 ▸ n1)
  rw [if_neg e1, if_neg e1]
  by_cases e2 : x.op = sMove
  · rw [if_pos e2, if_pos e2]
    exact hset _ (e2 ▸ n2)
  rw [if_neg e2, if_neg e2]
  by_cases e3 : x.op = sHeld
  · rw [if_pos e3, if_pos e3]
    exact hset _ (e3 ▸ n3)
  rw [if_neg e3, if_neg e3]
  by_cases e4 : x.op = sClosure
  · rw [if_pos e4, if_pos e4]
    have h := made_turn t s x.num.toNat (vals s.regs x.args) false []
    rw [List.map_nil] at h
    rw [h]
    have he : (t.st s).newV = s.newV := rfl
    rw [he, hto (e4 ▸ n4)]
    exact setR_turn (s := s.made x.num.toNat (vals s.regs x.args) false []) hf hp hl (f2 (e4 ▸ n4)).1 (f2 (e4 ▸ n4)).2
  rw [if_neg e4, if_neg e4]
  by_cases e5 : x.op = sTie
  · rw [if_pos e5, if_pos e5]
    show (match find (s.cls.map t.cl) ((vals s.regs x.args).getD 0 Hp.none) with | none => _ | some k => _) = _
    rw [find_turn]
    cases find s.cls ((vals s.regs x.args).getD 0 Hp.none) with
    | none => rfl
    | some k =>
      show (if (k.held.length : Int) ≤ x.num then _ else _) = t.st (if (k.held.length : Int) ≤ x.num then _ else _)
      split
      · rfl
      · show ({ (t.st s) with cls := tied (s.cls.map t.cl) k.key _ _ } : St) = _
        rw [tied_turn]
        rfl
  rw [if_neg e5, if_neg e5]
  rw [prim_turn]
  have hps := prim_same s x.op (vals s.regs x.args)
  have hpe : (t.st (prim s x.op (vals s.regs x.args)).2).e = (prim s x.op (vals s.regs x.args)).2.e := rfl
  dsimp only
  rw [hpe]
  split
  · rw [hto e5]
    have := setR_turn (s := (prim s x.op (vals s.regs x.args)).2) (p := p) (r := x.to) (v := (prim s x.op (vals s.regs x.args)).1) hf (by rw [hps.2.1]; exact hp) (by rw [hps.2.2.1]; exact hl) (f2 e5).1 (f2 e5).2
    rw [hps.2.1] at this
    exact this
  · rfl
theorem tell_turn (hf : t.Fits c d) {s : St} {v : Hp.V} (hfr : ∀ f ∈ s.frs, FrOk c s.cls f) : tell (t.st s) v = t.st (tell s v) := by
  obtain ⟨T, cls, input, out, w, e, proc, regs, cl, block, pos, frs, done, told⟩ := s
  cases frs with
  | nil => rfl
  | cons f fs =>
    have hfo := hfr f (List.mem_cons_self ..)
    obtain ⟨p, b, h1, h2, h3⟩ := hfo.at'
    have hto := hfo.to
    have := hf.set f.proc p f.regs (f.to : Int) v h1 h3 (by omega) (by omega)
    rw [Int.toNat_natCast] at this
    show (⟨T, cls.map t.cl, input, out, w, e, f.proc, (t.row f.proc f.regs).set (t.nm f.proc f.to).toNat v, f.cl, f.next, 0, fs.map t.fr, done, told⟩ : St) = _
    rw [this]
    rfl
theorem call_turn (hf : t.Fits c d) (hc : CodeOk c) {n : Nat} {s : St} {v : Hp.V} {a : List Hp.V} (hm : Mo c n s) : call d (t.st s) v a = t.st (call c s v a) := by
  unfold call
  have e : find (t.st s).cls v = (find s.cls v).map t.cl := find_turn t s.cls v
  rw [e]
  cases hk : find s.cls v with
  | none => rfl
  | some k =>
    have hkm : k ∈ s.cls := by
      unfold find at hk
      split at hk
      · exact (look_mem' hk).1
      · cases hk
    have hok := (hm.cls k hkm).2
    simp only [Option.map_some]
    have ek : (t.cl k).kont = k.kont := rfl
    have ep : (t.cl k).proc = k.proc := rfl
    have ey : (t.cl k).key = k.key := rfl
    rw [ek, ep, ey]
    by_cases h1 : k.kont = true ∧ a.length = 1
    · rw [if_pos h1, if_pos h1]
      exact tell_turn (s := { s with frs := k.frs }) hf hok.frs
    · rw [if_neg h1, if_neg h1]
      by_cases hkk : k.kont = true
      · have hal : a.length ≠ 1 := fun h => h1 ⟨hkk, h⟩
        cases hp : c[k.proc]? with
        | none =>
          cases hd : d[k.proc]? with
          | none => rfl
          | some q =>
            dsimp only
            rw [if_pos (.inl hkk)]
            rfl
        | some p =>
          obtain ⟨q, hq, _⟩ := hf.prc _ _ hp
          rw [hq]
          dsimp only
          rw [if_pos (.inl hkk), if_pos (.inl hkk)]
          rfl
      · have hk0 : k.kont = false := by cases e : k.kont <;> simp_all
        obtain ⟨p, hp, hh⟩ := hok.kn hk0
        obtain ⟨q, hq, hpar, hbl, hrow⟩ := hf.prc _ _ hp
        rw [hp, hq]
        dsimp only
        rw [hpar]
        by_cases h2 : k.kont = true ∨ (a.length : Int) ≠ p.params
        · rw [if_pos h2, if_pos h2]
          rfl
        · rw [if_neg h2, if_neg h2]
          have hal : (a.length : Int) = p.params := Decidable.byContradiction fun e => h2 (.inr e)
          rw [← hrow a hal]
          rfl
theorem push_turn (hf : t.Fits c d) {s : St} {p : Prc} {x : Fin} (hp : c[s.proc]? = some p) (hk : x.kind = 4 ∨ x.kind = 6) (h0 : 0 ≤ x.to) (h1 : x.to < p.regs) : push (t.st s) (t.fin s.proc x) = t.st (push s x) := by
  unfold push
  have e : (t.fin s.proc x).to = t.nm s.proc x.to := by
    show (if x.kind = 4 ∨ x.kind = 6 then _ else _) = _
    rw [if_pos hk]
  rw [e]
  unfold Turn.st
  dsimp only
  rw [List.map_cons]
  have : t.fr ⟨s.proc, s.regs, s.cl, x.to.toNat, x.next.toNat⟩ = ⟨s.proc, t.row s.proc s.regs, s.cl, (t.nm s.proc x.to).toNat, x.next.toNat⟩ := by
    unfold Turn.fr
    dsimp only
    have : ((x.to.toNat : Nat) : Int) = x.to := by omega
    rw [this]
  rw [this]
  rfl
theorem endB_turn (hf : t.Fits c d) (hc : CodeOk c) {n : Nat} {s : St} {p : Prc} {x : Fin} (hm : Mo c n s) (hu : Cu c s) (hp : c[s.proc]? = some p) (hx : finB p x = true) : endB d (t.st s) (t.fin s.proc x) = t.st (endB c s x) := by
  have hl : (s.regs.length : Int) = p.regs := by
    obtain ⟨p', b, h1, _, _, h4⟩ := hu.at'
    rw [hp] at h1
    cases h1
    exact h4
  obtain ⟨_, f0, f1, f2, _, _, _, f3⟩ := finB_facts hx
  have ek : (t.fin s.proc x).kind = x.kind := rfl
  have en : (t.fin s.proc x).next = x.next := rfl
  have ee : (t.fin s.proc x).els = x.els := rfl
  have hreg : x.kind ≠ 0 → (t.st s).regs.getD (t.fin s.proc x).reg.toNat Hp.none = s.regs.getD x.reg.toNat Hp.none := fun h => by
    have e : (t.fin s.proc x).reg = t.nm s.proc x.reg := by
      show (if x.kind = 0 then _ else _) = _
      rw [if_neg h]
    rw [e]
    exact hf.get s.proc p s.regs x.reg hp hl (f1 h).1 (f1 h).2
  have hv : vals (t.st s).regs (t.fin s.proc x).args = vals s.regs x.args := vals_turn hf hp hl f2
  unfold endB
  rw [ek, en, ee]
  by_cases k0 : x.kind = 0
  · rw [if_pos k0, if_pos k0]
    rfl
  rw [if_neg k0, if_neg k0, hreg k0, hv]
  by_cases k1 : x.kind = 1
  · rw [if_pos k1, if_pos k1]
    rfl
  rw [if_neg k1, if_neg k1]
  by_cases k2 : x.kind = 2
  · rw [if_pos k2, if_pos k2]
    exact tell_turn hf hm.frs
  rw [if_neg k2, if_neg k2]
  by_cases k3 : x.kind = 3
  · rw [if_pos k3, if_pos k3]
    exact call_turn hf hc hm
  rw [if_neg k3, if_neg k3]
  by_cases k4 : x.kind = 4
  · rw [if_pos k4, if_pos k4, push_turn hf hp (.inl k4) (f3 (.inl k4)).1 (f3 (.inl k4)).2]
    exact call_turn hf hc (push_ok hm hu hp hx (.inl k4))
  rw [if_neg k4, if_neg k4]
  have hmk : ∀ {n : Nat} {s : St}, Mo c n s → Mo c (n + 1) (s.made 0 [] true s.frs) := fun h => made_ok h ⟨(fun e => by simp at e), (fun v hv => nomatch hv), h.frs⟩
  by_cases k5 : x.kind = 5
  · rw [if_pos k5, if_pos k5]
    have h := made_turn t s 0 [] true s.frs
    have e1 : (t.st s).frs = s.frs.map t.fr := rfl
    have e2 : (t.st s).newV = s.newV := rfl
    rw [e1, e2, h]
    exact call_turn hf hc (hmk hm)
  rw [if_neg k5, if_neg k5]
  have k6 : x.kind = 6 := by omega
  rw [push_turn hf hp (.inr k6) (f3 (.inr k6)).1 (f3 (.inr k6)).2]
  have h := made_turn t (push s x) 0 [] true (push s x).frs
  have e1 : (t.st (push s x)).frs = (push s x).frs.map t.fr := rfl
  have e2 : (t.st s).newV = s.newV := rfl
  rw [e1, e2, h]
  exact call_turn hf hc (hmk (push_ok hm hu hp hx (.inr k6)))
theorem step_turn (hf : t.Fits c d) (hc : CodeOk c) {n : Nat} {s : St} (hm : Mo c n s) (hu : Cu c s) : step d (t.st s) = t.st (step c s) := by
  obtain ⟨p, b, e1, e2, e3, e4⟩ := hu.at'
  have hpm := List.mem_of_getElem? e1
  have hbm := List.mem_of_getElem? e2
  have hpf := (prcB_facts (hc.all p hpm)).2.2.2.2.2.2 b hbm
  obtain ⟨q, hq, _, hbl, _⟩ := hf.prc _ _ e1
  have hb : blkAt c s = some b := by unfold blkAt; rw [e1]; exact e2
  have hb' : blkAt d (t.st s) = some (t.blk s.proc b) := by
    unfold blkAt
    show (match d[s.proc]? with | some p => p.blocks[s.block]? | none => none) = _
    rw [hq]
    exact hbl _ _ e2
  unfold step
  rw [hb, hb']
  dsimp only
  have hi : (t.blk s.proc b).ins[(t.st s).pos]? = (b.ins[s.pos]?).map (t.ins s.proc) := List.getElem?_map ..
  rw [hi]
  cases hx : b.ins[s.pos]? with
  | none => exact endB_turn hf hc hm hu e1 hpf.2
  | some x => exact doI_turn (s := { s with pos := s.pos + 1 }) hf e1 e4 (hpf.1 x (List.mem_of_getElem? hx))
theorem go_turn (hf : t.Fits c d) (hc : CodeOk c) : ∀ (k n : Nat) (s : St), Mo c n s → (s.e = 0 → s.done = false → Cu c s) → go d k (t.st s) = (t.st (go c k s).1, (go c k s).2)
  | 0, n, s, hm, hu => by
    rw [goN_zero, goN_zero]
    show (if s.e = 0 ∧ s.done = false then _ else _) = _
    split <;> rfl
  | k + 1, n, s, hm, hu => by
    rw [goN_succ, goN_succ]
    show (if s.e = 0 ∧ s.done = false then _ else _) = _
    by_cases hr : s.e = 0 ∧ s.done = false
    · rw [if_pos hr, if_pos hr, step_turn hf hc hm (hu hr.1 hr.2)]
      obtain ⟨h1, h2⟩ := step_ok hc hm (hu hr.1 hr.2)
      exact go_turn hf hc k (n + 1) _ h1 fun e1 e2 => h2 e1 e2 hr.2
    · rw [if_neg hr, if_neg hr]
theorem start_eq {c : Code} {p : Prc} (inp : List UInt8) (hp : c[0]? = some p) (h0 : p.params = 0) : start c inp = ⟨[⟨4, []⟩], [⟨0, 0, [], false, []⟩], inp, [], ⟨4, 0, ⟨#[]⟩⟩, 0, 0, List.replicate p.regs.toNat unset, 0, 0, 0, [], false, Hp.none⟩ := by
  unfold start call
  have e : find ((start0 inp).made 0 [] false []).cls ⟨8, 0, ⟨#[]⟩⟩ = some ⟨0, 0, [], false, []⟩ := rfl
  rw [e]
  dsimp only
  rw [if_neg (by simp), hp]
  dsimp only
  rw [if_neg (by rw [h0]; simp)]
  rfl
theorem run_turn (hf : t.Fits c d) (hc : CodeOk c) (h1 : chk c = 0) (h2 : chk d = 0) (inp : List UInt8) (steps : Int) : run d inp steps = run c inp steps := by
  unfold run
  split
  · rfl
  rw [if_neg (show ¬ chk d ≠ 0 by rw [h2]; decide), if_neg (show ¬ chk c ≠ 0 by rw [h1]; decide)]
  have hm := start_mo c hc inp
  have hs : start d inp = t.st (start c inp) := by
    obtain ⟨p, l, rfl, hp1, hp2⟩ := hc.head
    obtain ⟨q, hq, hpar, _, hrow⟩ := hf.prc 0 p rfl
    rw [start_eq inp hq (hpar.trans hp1), start_eq (c := p :: l) inp rfl hp1]
    have := hrow [] (by rw [hp1]; rfl)
    rw [List.nil_append, List.nil_append, List.length_nil, Nat.sub_zero, Nat.sub_zero] at this
    unfold Turn.st
    dsimp only
    rw [this]
    rfl
  have hok := call_ok hc hm (v := ⟨8, 0, ⟨#[]⟩⟩) (a := []) (fun v hv => nomatch hv)
  rw [hs, go_turn hf hc steps.toNat 1 (start c inp) hok.1 fun e1 e2 => hok.2 e1 e2 rfl]
  rfl
end
end Vm
end Go.Proofs.Ytalfnaielhbocaa
namespace Go.Proofs.Ytalfnaielhbocaa
open Go.RowKit
set_option linter.unusedVariables false
set_option linter.unusedSimpArgs false
namespace Vm
section
variable {t : Turn} {c d : Code}
theorem regsB_map {p q : Prc} {f : Int → Int} (hr : ∀ r, 0 ≤ r → r < p.regs → 0 ≤ f r ∧ f r < q.regs) {l : List Int} (h : regsB p l = true) : regsB q (l.map f) = true := by
  unfold regsB at *
  rw [List.all_eq_true] at *
  intro x hx
  obtain ⟨r, hr', rfl⟩ := List.mem_map.1 hx
  have := h r hr'
  simp only [Bool.and_eq_true, decide_eq_true_eq] at this ⊢
  exact hr r this.1 this.2
theorem blockB_le {p q : Prc} (hb : p.blocks.length ≤ q.blocks.length) {b : Int} (h : blockB p b = true) : blockB q b = true := by
  unfold blockB at *
  simp only [Bool.and_eq_true, decide_eq_true_eq] at h ⊢
  omega
theorem insB_turn {i : Nat} {p q : Prc} {x : Ins} (h : insB c p x = true) (hr : ∀ r, 0 ≤ r → r < p.regs → 0 ≤ t.nm i r ∧ t.nm i r < q.regs) (hh : q.holds = p.holds) (hl : c.length ≤ d.length) (hc : ∀ (i : Nat) (p : Prc), c[i]? = some p → ∃ q, d[i]? = some q ∧ q.holds = p.holds) : insB d q (t.ins i x) = true := by
  have hargs := fun h => regsB_map (l := x.args) hr h
  have hto : ∀ {r : Int}, regsB p [r] = true → regsB q [t.nm i r] = true := fun {r} h => regsB_map (l := [r]) hr h
  have ea : (t.ins i x).args = x.args.map (t.nm i) := rfl
  have eo : (t.ins i x).op = x.op := rfl
  have ec : (t.ins i x).const = x.const := rfl
  have en : (t.ins i x).num = x.num := rfl
  have n1 : sConst ≠ sTie := by decide
  have n2 : sMove ≠ sTie := by decide
  have n3 : sHeld ≠ sTie := by decide
  have n4 : sClosure ≠ sTie := by decide
  have et : x.op ≠ sTie → (t.ins i x).to = t.nm i x.to := fun h => by
    show (if x.op = sTie then _ else _) = _
    rw [if_neg h]
  unfold insB at h ⊢
  rw [eo, ec, en, ea, List.length_map]
  by_cases e1 : x.op = sConst
  · rw [if_pos e1] at h ⊢
    rw [et (e1 ▸ n1)]
    simp only [Bool.and_eq_true] at h ⊢
    exact ⟨⟨h.1.1, hto h.1.2⟩, h.2⟩
  rw [if_neg e1] at h ⊢
  by_cases e2 : x.op = sMove
  · rw [if_pos e2] at h ⊢
    rw [et (e2 ▸ n2)]
    simp only [Bool.and_eq_true] at h ⊢
    exact ⟨⟨⟨h.1.1.1, hto h.1.1.2⟩, hargs h.1.2⟩, h.2⟩
  rw [if_neg e2] at h ⊢
  by_cases e3 : x.op = sHeld
  · rw [if_pos e3] at h ⊢
    rw [et (e3 ▸ n3), hh]
    simp only [Bool.and_eq_true] at h ⊢
    exact ⟨⟨⟨h.1.1.1, hto h.1.1.2⟩, hargs h.1.2⟩, h.2⟩
  rw [if_neg e3] at h ⊢
  by_cases e4 : x.op = sClosure
  · rw [if_pos e4] at h ⊢
    rw [et (e4 ▸ n4)]
    simp only [Bool.and_eq_true, decide_eq_true_eq] at h ⊢
    obtain ⟨⟨⟨⟨⟨h1, h2⟩, h3⟩, h4⟩, h5⟩, h6⟩ := h
    refine ⟨⟨⟨⟨⟨h1, by omega⟩, ?_⟩, hto h4⟩, hargs h5⟩, h6⟩
    cases hq : c[x.num.toNat]? with
    | none => rw [hq] at h3; cases h3
    | some q0 =>
      rw [hq] at h3
      obtain ⟨q1, e, e2⟩ := hc _ _ hq
      rw [e]
      dsimp only at h3 ⊢
      rw [e2]
      exact h3
  rw [if_neg e4] at h ⊢
  by_cases e5 : x.op = sTie
  · rw [if_pos e5] at h ⊢
    have : (t.ins i x).to = x.to := by
      show (if x.op = sTie then _ else _) = _
      rw [if_pos e5]
    rw [this]
    simp only [Bool.and_eq_true] at h ⊢
    exact ⟨⟨h.1.1, hargs h.1.2⟩, h.2⟩
  rw [if_neg e5] at h ⊢
  by_cases e6 : x.op = sCallcc
  · rw [if_pos e6] at h
    cases h
  rw [if_neg e6] at h ⊢
  rw [et e5]
  simp only [Bool.and_eq_true] at h ⊢
  exact ⟨⟨⟨h.1.1.1, hto h.1.1.2⟩, hargs h.1.2⟩, h.2⟩
theorem finB_turn {i : Nat} {p q : Prc} {x : Fin} (h : finB p x = true) (hr : ∀ r, 0 ≤ r → r < p.regs → 0 ≤ t.nm i r ∧ t.nm i r < q.regs) (hb : p.blocks.length ≤ q.blocks.length) : finB q (t.fin i x) = true := by
  have hargs := fun h => regsB_map (l := x.args) hr h
  have hto : ∀ {r : Int}, regsB p [r] = true → regsB q [t.nm i r] = true := fun {r} h => regsB_map (l := [r]) hr h
  have hto2 : ∀ {r s : Int}, regsB p [r, s] = true → regsB q [t.nm i r, t.nm i s] = true := fun {r s} h => regsB_map (l := [r, s]) hr h
  have hbl : ∀ {b : Int}, blockB p b = true → blockB q b = true := fun h => blockB_le hb h
  have ea : (t.fin i x).args = x.args.map (t.nm i) := rfl
  have ek : (t.fin i x).kind = x.kind := rfl
  have en : (t.fin i x).next = x.next := rfl
  have ee : (t.fin i x).els = x.els := rfl
  have er : (t.fin i x).reg = if x.kind = 0 then x.reg else t.nm i x.reg := rfl
  have et : (t.fin i x).to = if x.kind = 4 ∨ x.kind = 6 then t.nm i x.to else x.to := rfl
  unfold finB at h ⊢
  rw [ek, en, ee, ea, er, et, List.length_map]
  by_cases k0 : x.kind = 0
  · rw [if_pos k0] at h ⊢
    rw [if_pos k0, if_neg (by omega)]
    simp only [Bool.and_eq_true] at h ⊢
    exact ⟨⟨⟨⟨hbl h.1.1.1.1, h.1.1.1.2⟩, h.1.1.2⟩, h.1.2⟩, h.2⟩
  rw [if_neg k0] at h ⊢
  rw [if_neg k0]
  by_cases k1 : x.kind = 1
  · rw [if_pos k1] at h ⊢
    rw [if_neg (by omega)]
    simp only [Bool.and_eq_true] at h ⊢
    exact ⟨⟨⟨⟨hbl h.1.1.1.1, h.1.1.1.2⟩, hto h.1.1.2⟩, hbl h.1.2⟩, h.2⟩
  rw [if_neg k1] at h ⊢
  by_cases k2 : x.kind = 2 ∨ x.kind = 5
  · rw [if_pos k2] at h ⊢
    rw [if_neg (by omega)]
    simp only [Bool.and_eq_true] at h ⊢
    exact ⟨⟨⟨⟨hto h.1.1.1.1, h.1.1.1.2⟩, h.1.1.2⟩, h.1.2⟩, h.2⟩
  rw [if_neg k2] at h ⊢
  by_cases k3 : x.kind = 3
  · rw [if_pos k3] at h ⊢
    rw [if_neg (by omega)]
    simp only [Bool.and_eq_true] at h ⊢
    exact ⟨⟨⟨⟨hto h.1.1.1.1, h.1.1.1.2.1, hargs h.1.1.1.2.2⟩, h.1.1.2⟩, h.1.2⟩, h.2⟩
  rw [if_neg k3] at h ⊢
  by_cases k4 : x.kind = 4
  · rw [if_pos k4] at h ⊢
    rw [if_pos (.inl k4)]
    simp only [Bool.and_eq_true] at h ⊢
    exact ⟨⟨⟨hto2 h.1.1.1, h.1.1.2.1, hargs h.1.1.2.2⟩, hbl h.1.2⟩, h.2⟩
  rw [if_neg k4] at h ⊢
  by_cases k6 : x.kind = 6
  · rw [if_pos k6] at h ⊢
    rw [if_pos (.inr k6)]
    simp only [Bool.and_eq_true] at h ⊢
    exact ⟨⟨⟨hto2 h.1.1.1, h.1.1.2⟩, hbl h.1.2⟩, h.2⟩
  rw [if_neg k6] at h
  cases h
theorem chk_zero {c : Code} : chk c = 0 ↔ manyP c 0 ≠ none ∧ c.length ≤ 300 ∧ (∃ p, c[0]? = some p ∧ p.params = 0 ∧ p.holds = 0) ∧ ∀ p ∈ c, prcB c p = true := by
  constructor
  · intro h
    cases c with
    | nil => cases h
    | cons p l =>
      unfold chk at h
      split at h
      · cases h
      · rename_i h1
        dsimp only at h
        split at h
        · cases h
        · rename_i h2
          split at h
          · rename_i h3
            refine ⟨fun e => h1 (.inl e), by omega, ⟨p, rfl, ?_⟩, List.all_eq_true.1 h3⟩
            simpa using h2
          · cases h
  · rintro ⟨h1, h2, ⟨p, h3, h4, h5⟩, h6⟩
    unfold chk
    rw [if_neg (by rintro (e | e); exact h1 e; omega)]
    cases c with
    | nil => cases h3
    | cons q l =>
      simp at h3
      subst h3
      rw [if_neg (by simp [h4, h5]), if_pos (by simpa using h6)]
theorem manyB_map (t : Turn) (i : Nat) : ∀ (l : List Blk) (n : Nat), manyB (l.map (t.blk i)) n = manyB l n
  | [], n => rfl
  | b :: l, n => by
    have e : (t.blk i b).ins.length = b.ins.length := List.length_map ..
    rw [List.map_cons, manyB, manyB, e, manyB_map t i l]
theorem manyP_set {c : Code} {p q : Prc} (hr : q.regs = p.regs) (hb : ∀ n, manyB q.blocks n = manyB p.blocks n) : ∀ (c : Code) (k n : Nat), c[k]? = some p → manyP (c.set k q) n = manyP c n
  | [], k, n, h => by cases h
  | x :: c, 0, n, h => by
    simp at h
    subst h
    rw [List.set_cons_zero, manyP, manyP, hr, hb]
  | x :: c, k + 1, n, h => by
    rw [List.set_cons_succ, manyP, manyP]
    rw [manyP_set (c := c) hr hb c k _ (by simpa using h)]
theorem prcB_turn {i : Nat} {p q : Prc} (h : prcB c p = true) (hpar : q.params = p.params) (hh : q.holds = p.holds) (hrg : p.regs ≤ q.regs) (hb : ∃ l, q.blocks = p.blocks.map (t.blk i) ++ l ∧ ∀ b ∈ l, blkB d q b = true) (hr : ∀ r, 0 ≤ r → r < p.regs → 0 ≤ t.nm i r ∧ t.nm i r < q.regs) (hl : c.length ≤ d.length) (hc : ∀ (i : Nat) (p : Prc), c[i]? = some p → ∃ q, d[i]? = some q ∧ q.holds = p.holds) : prcB d q = true := by
  obtain ⟨l, hb, hl2⟩ := hb
  have hbl : p.blocks.length ≤ q.blocks.length := by rw [hb]; simp
  unfold prcB at h ⊢
  simp only [Bool.and_eq_true, decide_eq_true_eq, List.all_eq_true] at h ⊢
  obtain ⟨⟨⟨⟨⟨⟨h1, h2⟩, h3⟩, h4⟩, h5⟩, h6⟩, h7⟩ := h
  refine ⟨⟨⟨⟨⟨⟨by omega, by omega⟩, by omega⟩, by omega⟩, by omega⟩, by omega⟩, fun b hbm => ?_⟩
  rw [hb, List.mem_append] at hbm
  rcases hbm with hbm | hbm
  · obtain ⟨b0, hb0, rfl⟩ := List.mem_map.1 hbm
    have := h7 b0 hb0
    unfold blkB at this ⊢
    simp only [Bool.and_eq_true, List.all_eq_true] at this ⊢
    refine ⟨fun x hx => ?_, finB_turn this.2 hr hbl⟩
    obtain ⟨x0, hx0, rfl⟩ := List.mem_map.1 hx
    exact insB_turn (this.1 x0 hx0) hr hh hl hc
  · exact hl2 b hbm
end
def other (r a b : Int) : Int := if r = a then b else if r = b then a else r
def swap (l : List Hp.V) (a b : Nat) : List Hp.V := (l.set a (l.getD b Hp.none)).set b (l.getD a Hp.none)
def turnN (k : Nat) (a b : Int) : Turn := ⟨fun i r => if i = k then other r a b else r, fun i l => if i = k then swap l a.toNat b.toNat else l⟩
def turnedP (p : Prc) (k : Nat) (a b : Int) : Prc := ⟨p.params, p.holds, p.regs, p.blocks.map ((turnN k a b).blk k)⟩
theorem idT_ins {t : Turn} {i : Nat} (h : t.nm i = id) (x : Ins) : t.ins i x = x := by
  unfold Turn.ins
  rw [h, List.map_id]
  obtain ⟨op, xt, args, const, num⟩ := x
  simp
theorem idT_blk {t : Turn} {i : Nat} (h : t.nm i = id) (b : Blk) : t.blk i b = b := by
  obtain ⟨ins, ⟨kind, reg, args, xt, next, els⟩⟩ := b
  unfold Turn.blk Turn.fin
  have : ins.map (t.ins i) = ins := by
    conv => rhs; rw [← List.map_id ins]
    exact List.map_congr_left fun x _ => idT_ins h x
  rw [this, h]
  simp
theorem swap_len (l : List Hp.V) (a b : Nat) : (swap l a b).length = l.length := by simp [swap]
theorem getD_set (l : List Hp.V) (i j : Nat) (v d : Hp.V) : (l.set i v).getD j d = if i = j ∧ j < l.length then v else l.getD j d := by
  rw [List.getD_eq_getElem?_getD, List.getD_eq_getElem?_getD, List.getElem?_set]
  by_cases h : i = j
  · subst h
    by_cases h2 : i < l.length
    · simp [h2]
    · simp [h2, List.getElem?_eq_none (Nat.le_of_not_lt h2)]
  · simp [h]
theorem ext_getD {l m : List Hp.V} (hl : l.length = m.length) (h : ∀ j, j < l.length → l.getD j Hp.none = m.getD j Hp.none) : l = m := by
  apply List.ext_getElem hl
  intro j h1 h2
  have := h j h1
  rw [List.getD_eq_getElem?_getD, List.getD_eq_getElem?_getD, List.getElem?_eq_getElem h1, List.getElem?_eq_getElem h2] at this
  simpa using this
theorem swap_get {l : List Hp.V} {a b r : Nat} (ha : a < l.length) (hb : b < l.length) : (swap l a b).getD r Hp.none = if r = b then l.getD a Hp.none else if r = a then l.getD b Hp.none else l.getD r Hp.none := by
  unfold swap
  rw [getD_set, getD_set, List.length_set]
  by_cases h1 : r = b
  · subst h1
    rw [if_pos ⟨rfl, hb⟩, if_pos rfl]
  · rw [if_neg (fun h => h1 h.1.symm), if_neg h1]
    by_cases h2 : r = a
    · subst h2
      rw [if_pos ⟨rfl, ha⟩, if_pos rfl]
    · rw [if_neg (fun h => h2 h.1.symm), if_neg h2]
theorem other_bd {r a b n : Int} (ha : 0 ≤ a ∧ a < n) (hb : 0 ≤ b ∧ b < n) (hr : 0 ≤ r ∧ r < n) : 0 ≤ other r a b ∧ other r a b < n := by
  unfold other
  split
  · exact hb
  · split
    · exact ha
    · exact hr
theorem swap_other {l : List Hp.V} {a b r : Int} (ha : 0 ≤ a ∧ a < l.length) (hb : 0 ≤ b ∧ b < l.length) (hr : 0 ≤ r ∧ r < l.length) : (swap l a.toNat b.toNat).getD (other r a b).toNat Hp.none = l.getD r.toNat Hp.none := by
  rw [swap_get (by omega) (by omega)]
  unfold other
  by_cases h1 : r = a
  · rw [if_pos h1, if_pos rfl, h1]
  · rw [if_neg h1]
    by_cases h2 : r = b
    · rw [if_pos h2]
      by_cases h3 : a = b
      · exact absurd (h2.trans h3.symm) h1
      · rw [if_neg (by omega), if_pos rfl, h2]
    · rw [if_neg h2, if_neg (by omega), if_neg (by omega)]
theorem swap_set {l : List Hp.V} {a b r : Int} {v : Hp.V} (ha : 0 ≤ a ∧ a < l.length) (hb : 0 ≤ b ∧ b < l.length) (hr : 0 ≤ r ∧ r < l.length) : (swap l a.toNat b.toNat).set (other r a b).toNat v = swap (l.set r.toNat v) a.toNat b.toNat := by
  refine ext_getD (by simp [swap]) fun j hj => ?_
  simp only [List.length_set, swap_len] at hj
  rw [getD_set, swap_len, swap_get (by omega) (by omega), swap_get (by rw [List.length_set]; omega) (by rw [List.length_set]; omega), getD_set, getD_set, getD_set]
  unfold other
  repeat' split
  all_goals first | rfl | (exfalso; omega) | (congr 1; omega)
theorem swap_new {a b m : Int} {l : List Hp.V} {n : Nat} (hl : (l.length : Int) ≤ a) (hl2 : (l.length : Int) ≤ b) (ha : a < m) (hb : b < m) (hn : (l.length : Int) + n = m) : swap (l ++ List.replicate n unset) a.toNat b.toNat = l ++ List.replicate n unset := by
  have hlen : (l ++ List.replicate n unset).length = l.length + n := by simp
  have hu : ∀ j, l.length ≤ j → j < l.length + n → (l ++ List.replicate n unset).getD j Hp.none = unset := fun j h1 h2 => by
    rw [List.getD_eq_getElem?_getD, List.getElem?_append_right h1, List.getElem?_replicate, if_pos (by omega)]
    rfl
  refine ext_getD (by rw [swap_len]) fun j hj => ?_
  rw [swap_len, hlen] at hj
  rw [swap_get (by omega) (by omega)]
  split
  · rw [hu _ (by omega) (by omega), hu _ (by omega) (by omega)]
  · split
    · rw [hu _ (by omega) (by omega), hu _ (by omega) (by omega)]
    · rfl
section
variable {c : Code} {p : Prc} {k : Nat} {a b : Int}
theorem turnN_fits (hp : c[k]? = some p) (h0 : 0 ≤ p.params) (ha : p.params ≤ a ∧ a < p.regs) (hb : p.params ≤ b ∧ b < p.regs) : (turnN k a b).Fits c (c.set k (turnedP p k a b)) := by
  have hk := (List.getElem?_eq_some_iff.1 hp).1
  refine ⟨fun i q hi => ?_, fun i q r hi h1 h2 => ?_, fun i q l r hi hl h1 h2 => ?_, fun i q l r v hi hl h1 h2 => ?_⟩
  · by_cases hik : i = k
    · subst hik
      rw [hp] at hi
      cases hi
      refine ⟨turnedP p i a b, by rw [List.getElem?_set]; simp [hk], rfl, fun j bl hj => ?_, fun l hl => ?_⟩
      · unfold turnedP
        dsimp only
        rw [List.getElem?_map, hj]
        rfl
      · unfold turnN
        dsimp only
        rw [if_pos rfl]
        exact swap_new (m := p.regs) (by omega) (by omega) ha.2 hb.2 (by omega)
    · have hid : (turnN k a b).nm i = id := by
        unfold turnN
        funext r
        simp [hik]
      refine ⟨q, by rw [List.getElem?_set]; simp [Ne.symm hik, hi], rfl, fun j bl hj => ?_, fun l hl => ?_⟩
      · rw [idT_blk hid]; exact hj
      · unfold turnN
        dsimp only
        rw [if_neg hik]
  · unfold turnN
    dsimp only
    by_cases hik : i = k
    · subst hik
      rw [hp] at hi
      cases hi
      rw [if_pos rfl]
      exact (other_bd (n := p.regs) (by omega) (by omega) (by omega)).1
    · rw [if_neg hik]; exact h1
  · unfold turnN
    dsimp only
    by_cases hik : i = k
    · subst hik
      rw [hp] at hi
      cases hi
      rw [if_pos rfl, if_pos rfl]
      exact swap_other (by omega) (by omega) (by omega)
    · rw [if_neg hik, if_neg hik]
  · unfold turnN
    dsimp only
    by_cases hik : i = k
    · subst hik
      rw [hp] at hi
      cases hi
      rw [if_pos rfl, if_pos rfl, if_pos rfl]
      exact swap_set (by omega) (by omega) (by omega)
    · rw [if_neg hik, if_neg hik, if_neg hik]
theorem turnN_chk (hc : chk c = 0) (hp : c[k]? = some p) (ha : p.params ≤ a ∧ a < p.regs) (hb : p.params ≤ b ∧ b < p.regs) : chk (c.set k (turnedP p k a b)) = 0 := by
  have hk := (List.getElem?_eq_some_iff.1 hp).1
  obtain ⟨h1, h2, ⟨p0, h3, h4, h5⟩, h6⟩ := chk_zero.1 hc
  have hcd : ∀ (i : Nat) (q : Prc), c[i]? = some q → ∃ q', (c.set k (turnedP p k a b))[i]? = some q' ∧ q'.holds = q.holds := fun i q hi => by
    by_cases hik : k = i
    · subst hik
      rw [hp] at hi
      cases hi
      exact ⟨turnedP p k a b, by rw [List.getElem?_set]; simp [hk], rfl⟩
    · exact ⟨q, by rw [List.getElem?_set]; simp [hik, hi], rfl⟩
  refine chk_zero.2 ⟨?_, by rw [List.length_set]; exact h2, ?_, fun q hq => ?_⟩
  · rw [manyP_set (c := c) (p := p) (q := turnedP p k a b) rfl (fun n => manyB_map (turnN k a b) k p.blocks n) c k 0 hp]
    exact h1
  · by_cases hik : k = 0
    · subst hik
      rw [hp] at h3
      cases h3
      exact ⟨turnedP p 0 a b, by rw [List.getElem?_set]; simp [hk], h4, h5⟩
    · exact ⟨p0, by rw [List.getElem?_set]; simp [hik, h3], h4, h5⟩
  · obtain ⟨i, hi⟩ := List.mem_iff_getElem?.1 hq
    by_cases hik : k = i
    · subst hik
      rw [List.getElem?_set] at hi
      simp [hk] at hi
      subst hi
      have hpr := h6 p (List.mem_of_getElem? hp)
      have h0 := (prcB_facts hpr).1
      refine prcB_turn (t := turnN k a b) (i := k) hpr rfl rfl (Int.le_refl _) ⟨[], by simp [turnedP], fun b hb => nomatch hb⟩ (fun r e1 e2 => ?_) (by rw [List.length_set]; exact Nat.le_refl _) hcd
      unfold turnN
      dsimp only
      rw [if_pos rfl]
      exact other_bd (n := p.regs) (by omega) (by omega) (by omega)
    · rw [List.getElem?_set] at hi
      simp [hik] at hi
      have hid : (turnN k a b).nm i = id := by
        unfold turnN
        funext r
        simp [Ne.symm hik]
      refine prcB_turn (t := turnN k a b) (i := i) (h6 q (List.mem_of_getElem? hi)) rfl rfl (Int.le_refl _) ⟨[], ?_, fun b hb => nomatch hb⟩ (fun r e1 e2 => by rw [hid]; exact ⟨e1, e2⟩) (by rw [List.length_set]; exact Nat.le_refl _) hcd
      rw [List.append_nil]
      conv => lhs; rw [← List.map_id q.blocks]
      exact List.map_congr_left fun b _ => (idT_blk hid b).symm
theorem names_run (hc : chk c = 0) (hok : CodeOk c) (hp : c[k]? = some p) (ha : p.params ≤ a ∧ a < p.regs) (hb : p.params ≤ b ∧ b < p.regs) (inp : List UInt8) (steps : Int) : run (c.set k (turnedP p k a b)) inp steps = run c inp steps :=
  run_turn (turnN_fits hp (prcB_facts (hok.all p (List.mem_of_getElem? hp))).1 ha hb) hok hc (turnN_chk hc hp ha hb) inp steps
end
def moreP (p : Prc) : Prc := ⟨p.params, p.holds, p.regs + 1, p.blocks ++ [⟨[], ⟨2, p.regs, [], 0, 0, 0⟩⟩]⟩
section
variable {c : Code} {p : Prc} {k : Nat}
end
end Vm
end Go.Proofs.Ytalfnaielhbocaa
namespace Go.Proofs.Ytalfnaielhbocaa
open Go.RowKit
set_option linter.unusedVariables false
set_option linter.unusedSimpArgs false
set_option maxRecDepth 100000
namespace Vm
theorem Row.ins {w w' : World} {v : Value} {l : List Ins} (h : Row w v 8 l (InsC w)) (hb : Below w.heap.size w w') : Row w' v 8 l (InsC w') := h.mono hb.size fun _ _ _ _ hl h => h.bel hb hl
theorem Row.blk {w w' : World} {v : Value} {l : List Blk} (h : Row w v 7 l (BlkC w)) (hb : Below w.heap.size w w') : Row w' v 7 l (BlkC w') := h.mono hb.size fun _ _ _ _ hl h => h.bel hb hl
end Vm
end Go.Proofs.Ytalfnaielhbocaa
namespace Go.Proofs.Ytalfnaielhbocaa
open Go.RowKit
set_option linter.unusedVariables false
set_option linter.unusedSimpArgs false
set_option maxRecDepth 100000
namespace Vm
theorem addr_add (b o j : Nat) : (⟨b, o, none⟩ : Addr).add j = ⟨b, o + j, none⟩ := by
  unfold Addr.add
  split <;> simp_all
def rowCs (w : World) (b off n : Nat) : List Value := (List.range n).map fun j => (w.cell? ⟨b, off + j, none⟩).getD undef
theorem rowCs_get {w : World} {b off n j : Nat} {u : Value} (hj : j < n) (h : w.cell? ⟨b, off + j, none⟩ = some u) : (rowCs w b off n)[j]? = some u := by
  unfold rowCs
  rw [List.getElem?_map, List.getElem?_range hj]
  simp [h]
def PCs (w : World) (cs : List Value) (l : Code) : Prop := cs.length = l.length * 4 ∧ ∀ (j : Nat) (x : Prc), l[j]? = some x → ∃ bv, cs[j * 4]? = some (.int .i64 x.params) ∧ cs[j * 4 + 1]? = some (.int .i64 x.holds) ∧ cs[j * 4 + 2]? = some (.int .i64 x.regs) ∧ cs[j * 4 + 3]? = some bv ∧ Row w bv 7 x.blocks (BlkC w)
def BCs (w : World) (cs : List Value) (l : List Blk) : Prop := cs.length = l.length * 7 ∧ ∀ (j : Nat) (x : Blk), l[j]? = some x → ∃ iv av, cs[j * 7]? = some iv ∧ cs[j * 7 + 1]? = some (.int .i64 x.fin.kind) ∧ cs[j * 7 + 2]? = some (.int .i64 x.fin.reg) ∧ cs[j * 7 + 3]? = some av ∧ cs[j * 7 + 4]? = some (.int .i64 x.fin.to) ∧ cs[j * 7 + 5]? = some (.int .i64 x.fin.next) ∧ cs[j * 7 + 6]? = some (.int .i64 x.fin.els) ∧ Row w iv 8 x.ins (InsC w) ∧ Sl w av (ints x.fin.args)
theorem PCs.bel {w w' : World} {cs : List Value} {l : Code} (h : PCs w cs l) (hb : Below w.heap.size w w') : PCs w' cs l := by
  refine ⟨h.1, fun j x hx => ?_⟩
  obtain ⟨bv, a0, a1, a2, a3, hr⟩ := h.2 j x hx
  exact ⟨bv, a0, a1, a2, a3, hr.blk hb⟩
theorem BCs.bel {w w' : World} {cs : List Value} {l : List Blk} (h : BCs w cs l) (hb : Below w.heap.size w w') : BCs w' cs l := by
  refine ⟨h.1, fun j x hx => ?_⟩
  obtain ⟨iv, av, a0, a1, a2, a3, a4, a5, a6, hr, hs⟩ := h.2 j x hx
  exact ⟨iv, av, a0, a1, a2, a3, a4, a5, a6, hr.ins hb, hs.below hb (Nat.le_refl _)⟩
theorem PCs.of {w : World} {c : Code} {a : Option Addr} {cap : Nat} (h : CodeAt w (.slice a c.length cap) c) (hn : c ≠ []) :
    ∃ b off cs, a = some ⟨b, off, none⟩ ∧ PCs w cs c ∧ (∀ (j : Nat) (u : Value), cs[j]? = some u → w.cell? ((⟨b, off, none⟩ : Addr).add j) = some u) ∧ ∀ u ∈ cs, u.oneCell' = true := by
  obtain ⟨a', cap', e, h⟩ := h
  cases e
  rcases h with h | ⟨b, off, rfl, hb, hR⟩
  · exact absurd h hn
  have hget : ∀ (j : Nat) (x : Prc), c[j]? = some x → ∃ bv, w.cell? ⟨b, off + (j * 4 + 3), none⟩ = some bv ∧ (∃ a n c, bv = .slice a n c) ∧ Row w bv 7 x.blocks (BlkC w) := fun j x hx => by
    obtain ⟨c0, c1, c2, bv, c3, hr⟩ := hR j x hx
    obtain ⟨ab, capb, e⟩ := hr.len
    exact ⟨bv, by rw [← Nat.add_assoc]; exact c3, ⟨_, _, _, e⟩, hr⟩
  have hcell : ∀ j, j < c.length * 4 → ∃ u, w.cell? ⟨b, off + j, none⟩ = some u ∧ u.oneCell' = true := fun j hj => by
    have hk : j / 4 < c.length := by omega
    obtain ⟨x, hx⟩ : ∃ x, c[j / 4]? = some x := ⟨_, List.getElem?_eq_getElem hk⟩
    obtain ⟨c0, c1, c2, bv, c3, hr⟩ := hR _ x hx
    obtain ⟨ab, capb, e⟩ := hr.len
    have hm : j % 4 < 4 := Nat.mod_lt _ (by omega)
    have hd : j / 4 * 4 + j % 4 = j := by omega
    rcases (by omega : j % 4 = 0 ∨ j % 4 = 1 ∨ j % 4 = 2 ∨ j % 4 = 3) with e4 | e4 | e4 | e4
    · exact ⟨_, by rw [← hd, e4]; exact c0, rfl⟩
    · exact ⟨_, by rw [← hd, e4, ← Nat.add_assoc]; exact c1, rfl⟩
    · exact ⟨_, by rw [← hd, e4, ← Nat.add_assoc]; exact c2, rfl⟩
    · exact ⟨_, by rw [← hd, e4, ← Nat.add_assoc]; exact c3, by rw [e]; rfl⟩
  have hlen : (rowCs w b off (c.length * 4)).length = c.length * 4 := by simp [rowCs]
  refine ⟨b, off, rowCs w b off (c.length * 4), rfl, ⟨hlen, fun j x hx => ?_⟩, fun j u hu => ?_, fun u hu => ?_⟩
  · have hjl := (List.getElem?_eq_some_iff.1 hx).1
    obtain ⟨c0, c1, c2, bv, c3, hr⟩ := hR j x hx
    exact ⟨bv, rowCs_get (by omega) c0, rowCs_get (by omega) (by rw [← Nat.add_assoc]; exact c1), rowCs_get (by omega) (by rw [← Nat.add_assoc]; exact c2), rowCs_get (by omega) (by rw [← Nat.add_assoc]; exact c3), hr⟩
  · have hj := (List.getElem?_eq_some_iff.1 hu).1
    rw [hlen] at hj
    obtain ⟨v, hv, _⟩ := hcell j hj
    rw [rowCs_get hj hv] at hu
    cases hu
    rw [addr_add]
    exact hv
  · obtain ⟨j, hj⟩ := List.mem_iff_getElem?.1 hu
    have hjl := (List.getElem?_eq_some_iff.1 hj).1
    rw [hlen] at hjl
    obtain ⟨v, hv, h1⟩ := hcell j hjl
    rw [rowCs_get hjl hv] at hj
    cases hj
    exact h1
theorem BCs.of {w : World} {l : List Blk} {a : Option Addr} {cap : Nat} (h : Row w (.slice a l.length cap) 7 l (BlkC w)) (hn : l ≠ []) :
    ∃ b off cs, a = some ⟨b, off, none⟩ ∧ BCs w cs l ∧ (∀ (j : Nat) (u : Value), cs[j]? = some u → w.cell? ((⟨b, off, none⟩ : Addr).add j) = some u) ∧ ∀ u ∈ cs, u.oneCell' = true := by
  obtain ⟨a', cap', e, h⟩ := h
  cases e
  rcases h with h | ⟨b, off, rfl, hb, hR⟩
  · exact absurd h hn
  have hcell : ∀ j, j < l.length * 7 → ∃ u, w.cell? ⟨b, off + j, none⟩ = some u ∧ u.oneCell' = true := fun j hj => by
    have hk : j / 7 < l.length := by omega
    obtain ⟨x, hx⟩ : ∃ x, l[j / 7]? = some x := ⟨_, List.getElem?_eq_getElem hk⟩
    obtain ⟨⟨iv, c0, hi⟩, c1, c2, ⟨av, c3, hs⟩, c4, c5, c6⟩ := hR _ x hx
    obtain ⟨ai, capi, ei⟩ := hi.len
    obtain ⟨aa, ca, ea⟩ := hs.len
    have hd : j / 7 * 7 + j % 7 = j := by omega
    rcases (by omega : j % 7 = 0 ∨ j % 7 = 1 ∨ j % 7 = 2 ∨ j % 7 = 3 ∨ j % 7 = 4 ∨ j % 7 = 5 ∨ j % 7 = 6) with e4 | e4 | e4 | e4 | e4 | e4 | e4
    · exact ⟨_, by rw [← hd, e4]; exact c0, by rw [ei]; rfl⟩
    · exact ⟨_, by rw [← hd, e4, ← Nat.add_assoc]; exact c1, rfl⟩
    · exact ⟨_, by rw [← hd, e4, ← Nat.add_assoc]; exact c2, rfl⟩
    · exact ⟨_, by rw [← hd, e4, ← Nat.add_assoc]; exact c3, by rw [ea]; rfl⟩
    · exact ⟨_, by rw [← hd, e4, ← Nat.add_assoc]; exact c4, rfl⟩
    · exact ⟨_, by rw [← hd, e4, ← Nat.add_assoc]; exact c5, rfl⟩
    · exact ⟨_, by rw [← hd, e4, ← Nat.add_assoc]; exact c6, rfl⟩
  have hlen : (rowCs w b off (l.length * 7)).length = l.length * 7 := by simp [rowCs]
  refine ⟨b, off, rowCs w b off (l.length * 7), rfl, ⟨hlen, fun j x hx => ?_⟩, fun j u hu => ?_, fun u hu => ?_⟩
  · have hjl := (List.getElem?_eq_some_iff.1 hx).1
    obtain ⟨⟨iv, c0, hi⟩, c1, c2, ⟨av, c3, hs⟩, c4, c5, c6⟩ := hR j x hx
    exact ⟨iv, av, rowCs_get (by omega) c0, rowCs_get (by omega) (by rw [← Nat.add_assoc]; exact c1), rowCs_get (by omega) (by rw [← Nat.add_assoc]; exact c2), rowCs_get (by omega) (by rw [← Nat.add_assoc]; exact c3), rowCs_get (by omega) (by rw [← Nat.add_assoc]; exact c4), rowCs_get (by omega) (by rw [← Nat.add_assoc]; exact c5), rowCs_get (by omega) (by rw [← Nat.add_assoc]; exact c6), hi, hs⟩
  · have hj := (List.getElem?_eq_some_iff.1 hu).1
    rw [hlen] at hj
    obtain ⟨v, hv, _⟩ := hcell j hj
    rw [rowCs_get hj hv] at hu
    cases hu
    rw [addr_add]
    exact hv
  · obtain ⟨j, hj⟩ := List.mem_iff_getElem?.1 hu
    have hjl := (List.getElem?_eq_some_iff.1 hj).1
    rw [hlen] at hjl
    obtain ⟨v, hv, h1⟩ := hcell j hjl
    rw [rowCs_get hjl hv] at hj
    cases hj
    exact h1
theorem PCs.code {w : World} {B g n cap : Nat} {t : TypeId} {cs : List Value} {l : Code} (ho : w.ownsRow B t 4 (.slice (some ⟨g, 0, none⟩) n cap) n cs) (h : PCs w cs l) (hn : n = l.length) : CodeAt w (.slice (some ⟨g, 0, none⟩) l.length cap) l := by
  subst hn
  refine ⟨_, cap, rfl, .inr ⟨g, 0, rfl, (ho.lt g rfl).2, fun j x hx => ?_⟩⟩
  have hjl := (List.getElem?_eq_some_iff.1 hx).1
  obtain ⟨bv, a0, a1, a2, a3, hr⟩ := h.2 j x hx
  have C := fun k (hk : k < l.length * 4) => ho.cellAt k hk
  rw [Nat.zero_add]
  exact ⟨(C _ (by omega)).trans a0, (C _ (by omega)).trans a1, (C _ (by omega)).trans a2, bv, (C _ (by omega)).trans a3, hr⟩
theorem BCs.row {w : World} {B g n cap : Nat} {t : TypeId} {cs : List Value} {l : List Blk} (ho : w.ownsRow B t 7 (.slice (some ⟨g, 0, none⟩) n cap) n cs) (h : BCs w cs l) (hn : n = l.length) : Row w (.slice (some ⟨g, 0, none⟩) l.length cap) 7 l (BlkC w) := by
  subst hn
  refine ⟨_, cap, rfl, .inr ⟨g, 0, rfl, (ho.lt g rfl).2, fun j x hx => ?_⟩⟩
  have hjl := (List.getElem?_eq_some_iff.1 hx).1
  obtain ⟨iv, av, a0, a1, a2, a3, a4, a5, a6, hi, hs⟩ := h.2 j x hx
  have C := fun k (hk : k < l.length * 7) => ho.cellAt k hk
  rw [Nat.zero_add]
  exact ⟨⟨iv, (C _ (by omega)).trans a0, hi⟩, (C _ (by omega)).trans a1, (C _ (by omega)).trans a2, ⟨av, (C _ (by omega)).trans a3, hs⟩, (C _ (by omega)).trans a4, (C _ (by omega)).trans a5, (C _ (by omega)).trans a6⟩
theorem PCs.snoc {w : World} {cs : List Value} {l : Code} (h : PCs w cs l) {x : Prc} {bv : Value} (hr : Row w bv 7 x.blocks (BlkC w)) : PCs w (cs ++ [.int .i64 x.params, .int .i64 x.holds, .int .i64 x.regs, bv]) (l ++ [x]) := by
  refine ⟨by simp [h.1]; omega, fun j y hy => ?_⟩
  have hl := h.1
  by_cases hj : j < l.length
  · rw [List.getElem?_append_left hj] at hy
    obtain ⟨bv', a0, a1, a2, a3, hr'⟩ := h.2 j y hy
    exact ⟨bv', by rw [List.getElem?_append_left (by omega)]; exact a0, by rw [List.getElem?_append_left (by omega)]; exact a1, by rw [List.getElem?_append_left (by omega)]; exact a2, by rw [List.getElem?_append_left (by omega)]; exact a3, hr'⟩
  · rw [List.getElem?_append_right (by omega)] at hy
    have hj0 : j - l.length = 0 := by
      have := (List.getElem?_eq_some_iff.1 hy).1
      simp at this
      omega
    rw [hj0] at hy
    simp at hy
    subst hy
    have hjl : j = l.length := by omega
    subst hjl
    refine ⟨bv, ?_, ?_, ?_, ?_, hr⟩
    all_goals rw [List.getElem?_append_right (by omega)]
    · rw [show l.length * 4 - cs.length = 0 by omega]; rfl
    · rw [show l.length * 4 + 1 - cs.length = 1 by omega]; rfl
    · rw [show l.length * 4 + 2 - cs.length = 2 by omega]; rfl
    · rw [show l.length * 4 + 3 - cs.length = 3 by omega]; rfl
theorem BCs.snoc {w : World} {cs : List Value} {l : List Blk} (h : BCs w cs l) {x : Blk} {iv av : Value} (hi : Row w iv 8 x.ins (InsC w)) (ha : Sl w av (ints x.fin.args)) : BCs w (cs ++ [iv, .int .i64 x.fin.kind, .int .i64 x.fin.reg, av, .int .i64 x.fin.to, .int .i64 x.fin.next, .int .i64 x.fin.els]) (l ++ [x]) := by
  refine ⟨by simp [h.1]; omega, fun j y hy => ?_⟩
  have hl := h.1
  by_cases hj : j < l.length
  · rw [List.getElem?_append_left hj] at hy
    obtain ⟨iv', av', a0, a1, a2, a3, a4, a5, a6, hr', hs'⟩ := h.2 j y hy
    exact ⟨iv', av', by rw [List.getElem?_append_left (by omega)]; exact a0, by rw [List.getElem?_append_left (by omega)]; exact a1, by rw [List.getElem?_append_left (by omega)]; exact a2, by rw [List.getElem?_append_left (by omega)]; exact a3, by rw [List.getElem?_append_left (by omega)]; exact a4, by rw [List.getElem?_append_left (by omega)]; exact a5, by rw [List.getElem?_append_left (by omega)]; exact a6, hr', hs'⟩
  · rw [List.getElem?_append_right (by omega)] at hy
    have hj0 : j - l.length = 0 := by
      have := (List.getElem?_eq_some_iff.1 hy).1
      simp at this
      omega
    rw [hj0] at hy
    simp at hy
    subst hy
    have hjl : j = l.length := by omega
    subst hjl
    refine ⟨iv, av, ?_, ?_, ?_, ?_, ?_, ?_, ?_, hi, ha⟩
    all_goals rw [List.getElem?_append_right (by omega)]
    · rw [show l.length * 7 - cs.length = 0 by omega]; rfl
    · rw [show l.length * 7 + 1 - cs.length = 1 by omega]; rfl
    · rw [show l.length * 7 + 2 - cs.length = 2 by omega]; rfl
    · rw [show l.length * 7 + 3 - cs.length = 3 by omega]; rfl
    · rw [show l.length * 7 + 4 - cs.length = 4 by omega]; rfl
    · rw [show l.length * 7 + 5 - cs.length = 5 by omega]; rfl
    · rw [show l.length * 7 + 6 - cs.length = 6 by omega]; rfl
theorem PCs.set {w : World} {cs : List Value} {l : Code} (h : PCs w cs l) {k : Nat} (hk : k < l.length) {x : Prc} {bv : Value} (hr : Row w bv 7 x.blocks (BlkC w)) : PCs w ((((cs.set (k * 4) (.int .i64 x.params)).set (k * 4 + 1) (.int .i64 x.holds)).set (k * 4 + 2) (.int .i64 x.regs)).set (k * 4 + 3) bv) (l.set k x) := by
  refine ⟨by simp [h.1], fun j y hy => ?_⟩
  have hl := h.1
  by_cases hj : k = j
  · subst hj
    rw [List.getElem?_set] at hy
    simp [hk] at hy
    subst hy
    refine ⟨bv, ?_, ?_, ?_, ?_, hr⟩
    · rw [List.getElem?_set_ne (by omega), List.getElem?_set_ne (by omega), List.getElem?_set_ne (by omega), List.getElem?_set_self (by omega)]
    · rw [List.getElem?_set_ne (by omega), List.getElem?_set_ne (by omega), List.getElem?_set_self (by simp; omega)]
    · rw [List.getElem?_set_ne (by omega), List.getElem?_set_self (by simp; omega)]
    · rw [List.getElem?_set_self (by simp; omega)]
  · rw [List.getElem?_set_ne hj] at hy
    obtain ⟨bv', a0, a1, a2, a3, hr'⟩ := h.2 j y hy
    refine ⟨bv', ?_, ?_, ?_, ?_, hr'⟩
    all_goals rw [List.getElem?_set_ne (by omega), List.getElem?_set_ne (by omega), List.getElem?_set_ne (by omega), List.getElem?_set_ne (by omega)]; assumption
theorem blocks_few : ∀ (l : List Blk) (n : Nat), manyB l n ≤ 4096 → n + l.length ≤ 4096 ∨ l = []
  | [], n, h => .inr rfl
  | b :: l, n, h => by
    have e : manyB (b :: l) n = if n + 1 + b.ins.length > 4096 then n + 1 + b.ins.length else manyB l (n + 1 + b.ins.length) := rfl
    rw [e] at h
    split at h
    · omega
    · rcases blocks_few l _ h with h2 | h2
      · left; rw [List.length_cons]; omega
      · left; rw [h2, List.length_cons, List.length_nil]; omega
theorem blocks_fewP : ∀ (c : Code) (n : Nat), manyP c n ≠ none → ∀ p ∈ c, p.blocks.length ≤ 4096
  | q :: c, n, h, p, hp => by
    have e : manyP (q :: c) n = if q.regs > 2000 ∨ manyB q.blocks n > 4096 then none else manyP c (manyB q.blocks n) := rfl
    rw [e] at h
    split at h
    · exact absurd rfl h
    · rename_i hn
      rcases List.mem_cons.1 hp with rfl | hp
      · rcases blocks_few p.blocks n (by omega) with h2 | h2
        · omega
        · rw [h2]; exact Nat.zero_le _
      · exact blocks_fewP c _ h p hp
theorem PrcFit.more {p : Prc} (h : PrcFit p) (hb : p.blocks.length ≤ 4096) : PrcFit (moreP p) := by
  refine ⟨by show (p.blocks ++ [_]).length ≤ _; simp; omega, fun b hb => ?_⟩
  rcases List.mem_append.1 hb with e | e
  · exact h.each b e
  · simp at e
    subst e
    exact ⟨by simp, by simp, fun x hx => by simp at hx⟩
end Vm
end Go.Proofs.Ytalfnaielhbocaa
namespace Go.Proofs.Ytalfnaielhbocaa
open Go.RowKit
set_option linter.unusedVariables false
set_option linter.unusedSimpArgs false
set_option maxRecDepth 100000
namespace Vm
theorem infoPrc : (Try.prog.info? 40).map (fun i => (i.zero, i.size, i.bytes)) = some (some (.agg #[.int .i64 0, .int .i64 0, .int .i64 0, .slice none 0 0]), 4, 48) := by kernel_rfl
theorem infoBlk : (Try.prog.info? 48).map (fun i => (i.zero, i.size, i.bytes)) = some (some (.agg #[.slice none 0 0, .int .i64 0, .int .i64 0, .slice none 0 0, .int .i64 0, .int .i64 0, .int .i64 0]), 7, 88) := by kernel_rfl
theorem own_empty {w : World} {t : TypeId} {size B : Nat} (hB : B ≤ w.heap.size) : (w.alloc (.cells #[] t)).ownsRow B t size (.slice (some ⟨w.heap.size, 0, none⟩) 0 0) 0 [] :=
  ⟨by simp, .inr ⟨w.heap.size, 0, #[], rfl, hB, heap_alloc_new w _, Nat.le_refl _, by decide, by simp, by simp⟩⟩
theorem own_set_ne {w : World} {B e size n : Nat} {v : Value} {xs : List Value} (h : w.ownsRow B e size v n xs) {k i : Nat} (hk : ∀ q, v.ownBlock = some q → q ≠ k) (u : Value) : (w.setCell ⟨k, i, none⟩ u).ownsRow B e size v n xs :=
  own_same h fun q e => heap_setCell_other _ _ _ _ (hk q e)
end Vm
end Go.Proofs.Ytalfnaielhbocaa
