/- The machine's Run: carried out. -/
import Derived.Test.YtalfnaielhbocaaCJbh
import Derived.BigRegion
import Derived.Deep.RegionHeld3
import Derived.Test.YtalfnaielhbocaaCJam
import Derived.Test.YtalfnaielhbocaaCJax
import Derived.BigQuiet
set_option linter.unusedVariables false
set_option linter.unusedSimpArgs false
set_option linter.unnecessarySimpa false
namespace Go.Proofs.Ytalfnaielhbocaa
open Go.RowKit
set_option linter.unusedVariables false
set_option linter.unusedSimpArgs false
set_option maxRecDepth 100000
namespace Vm
section
variable {w : World} {cv : Value} {c : Code}
theorem heap_mid (w : World) (a b c : Obj) : (((w.alloc a).alloc b).alloc c).heap[w.heap.size + 1]? = some b := (heap_alloc_old _ _ (by simp)).trans (heap_new (by simp))
theorem heap_low (w : World) (a b c : Obj) : (((w.alloc a).alloc b).alloc c).heap[w.heap.size]? = some a := (heap_alloc_old _ _ (by simp; omega)).trans ((heap_alloc_old _ _ (by simp)).trans (heap_new rfl))
theorem conv_out {w : World} {a : Option Addr} {n cc : Nat} (l : List UInt8) (hn : n = l.length) (h : w.ownsRow 0 5 1 (.slice a n cc) n (bytes l)) (k : Nat) : (convert 65 9 (.slice a n cc)).run Try.prog (w.drewN k) = .ok (.string ⟨l.toArray⟩) (w.drewN k) := by
  subst hn
  have h := own_drewN h k
  rcases own_shape h with ⟨e, e2, e3⟩ | ⟨g, cap, e, h0, h1, h2, h3⟩
  · simp at e
    obtain ⟨rfl, h0, rfl⟩ := e
    have : l = [] := h0
    subst this
    exact run_convert_bytes_nil _ 65 5 Try.underlying65 Try.underlying5 _ _ 9 Try.underlying9
  · simp at e
    obtain ⟨rfl, rfl⟩ := e
    have hmap : (l.map fun b => (b.toNat : Int)).map (fun x => UInt8.ofNat x.toNat) = l := by
      rw [List.map_map]
      conv => rhs; rw [← List.map_id l]
      apply List.map_congr_left
      intro b _
      simp
    have := run_convert_bytes_arg (w.drewN k) 65 5 Try.underlying65 Try.underlying5 g 0 l.length cc (l.map fun b => (b.toNat : Int)) (by simp) (fun i hi => ?_) 9 Try.underlying9
    · rw [this]
      unfold strOfNums
      rw [hmap]
    · rw [Nat.zero_add, h.cellAt i (by omega)]
      simp [bytes, List.getD, List.getElem?_eq_getElem hi]
theorem run_begin {w3 wM : World} {cv : Value} {hb mb m : Nat} {ρ : Nat → Nat} {inp : List UInt8} {steps : Nat} (h : VmO w3 wM ρ (fun _ => .slice none 0 0) m cv (start0 inp) steps 0 hb mb (.slice none 0 0) (.slice none 0 0) (.pointer none) []) :
    MadeIn w3 wM ρ (fun _ => .slice none 0 0) m cv (start0 inp) steps 0 hb mb (.slice none 0 0) (.slice none 0 0) (.pointer none) [] 0 [] false [] (.slice none 0 0) (.pointer none) :=
  ⟨h, World.ownsRow_nil _ _ _ _, (fun b e => by simp [Value.ownBlock] at e), .nil, Nat.zero_le _, (fun c hc => nomatch hc), (fun f hf => nomatch hf), (fun f hf => nomatch hf), fun _ => rfl⟩
theorem keep4 {w : World} {q m i a b c d : Nat} {u0 u1 u2 u3 : Value} (h : m ≠ q) : ((((w.setCell ⟨q, a, none⟩ u0).setCell ⟨q, b, none⟩ u1).setCell ⟨q, c, none⟩ u2).setCell ⟨q, d, none⟩ u3).cell? ⟨m, i, none⟩ = w.cell? ⟨m, i, none⟩ :=
  (cell_set_block _ _ h).trans ((cell_set_block _ _ h).trans ((cell_set_block _ _ h).trans (cell_set_block _ _ h)))
theorem below8 {B : Nat} {w0 w : World} {g : Nat} (h : Below B w0 w) (hg : B ≤ g) (b0 b1 b2 b3 b4 b5 b6 b7 : Value) : Below B w0 ((((((((w.setCell ⟨g, 0, none⟩ b0).setCell ⟨g, 1, none⟩ b1).setCell ⟨g, 2, none⟩ b2).setCell ⟨g, 3, none⟩ b3).setCell ⟨g, 4, none⟩ b4).setCell ⟨g, 5, none⟩ b5).setCell ⟨g, 6, none⟩ b6).setCell ⟨g, 7, none⟩ b7) :=
  (((((((h.setCell (p := ⟨g, 0, none⟩) hg _).setCell (p := ⟨g, 1, none⟩) hg _).setCell (p := ⟨g, 2, none⟩) hg _).setCell (p := ⟨g, 3, none⟩) hg _).setCell (p := ⟨g, 4, none⟩) hg _).setCell (p := ⟨g, 5, none⟩) hg _).setCell (p := ⟨g, 6, none⟩) hg _).setCell (p := ⟨g, 7, none⟩) hg _
theorem drew_at {w : World} {g : Nat} {o : Option Obj} (h : w.heap[g]? = o) : w.drew.heap[g]? = o := h
theorem five_at {w : World} {q g i0 i1 i2 i3 i4 : Nat} {u0 u1 u2 u3 u4 : Value} {o : Option Obj} (hn : g ≠ q) (h : w.heap[g]? = o) : (((((w.setCell ⟨q, i0, none⟩ u0).setCell ⟨q, i1, none⟩ u1).setCell ⟨q, i2, none⟩ u2).setCell ⟨q, i3, none⟩ u3).setCell ⟨q, i4, none⟩ u4).heap[g]? = o := by
  rw [heap_setCell_other _ _ _ _ hn, heap_setCell_other _ _ _ _ hn, heap_setCell_other _ _ _ _ hn, heap_setCell_other _ _ _ _ hn, heap_setCell_other _ _ _ _ hn]
  exact h
theorem run_at {c : Code} {inp : List UInt8} {steps left done : Nat} {s : St} (h1 : steps ≤ 1000000) (he : chk c = 0) (hgo : go c steps (start c inp) = go c left s) (hst : s.e ≠ 0 ∨ s.done = true) (hsum : done + left = steps) : run c inp steps = ⟨s.e, ⟨s.out.toArray⟩, if s.e = 0 then Hp.tellT s.T s.told else none, done⟩ := by
  unfold run
  rw [if_neg (by omega), if_neg (fun h => h he)]
  have e : (steps : Int).toNat = steps := by omega
  rw [e, hgo, go_stop hst]
  have : (steps : Int) - left = done := by omega
  simp only [this]
structure Rn (w3 wx : World) (m : Nat) (cv : Value) (c : Code) (inp : List UInt8) (total gk : Nat) : Prop where
  ex : ∃ s left done n, VmAt w3 wx m cv s left done ∧ done + left = total ∧ go c total (start c inp) = go c left s ∧ Mo c n s ∧ n + left ≤ total + 1 ∧ (s.e = 0 → s.done = false → Cu c s ∧ s.pos = 0 ∧ left < gk)
set_option maxHeartbeats 16000000 in
theorem Run_good (inp : List UInt8) (steps : Nat) (al : Option Addr) (nl cl : Nat) (h1 : steps ≤ 800000) (hck : ChkIs (.slice al nl cl) c w) (he : chk c = 0) (hc : CodeOk c) (hcode : CodeAt w (.slice al nl cl) c) :
    Calls Try.prog 11 #[.agg #[.slice al nl cl], .string ⟨inp.toArray⟩, .int .i64 steps] w (OutPost (run c inp steps) w) := by
  have g1 : decide ((steps : Int) < 0) = false := decide_eq_false (by omega)
  have g2 : decide ((1000000 : Int) < steps) = false := decide_eq_false (by omega)
  have g2' : decide (1000000 < steps) = false := decide_eq_false (by omega)
  obtain ⟨w1, B1⟩ := boxed w #[.slice al nl cl] 24
  obtain ⟨w2, B2⟩ := boxed w1 #[.int .i64 0, .string ⟨#[]⟩, .int .i64 0, .int .i64 0, .string ⟨#[]⟩, .slice none 0 0, .bool false, .int .i64 0] 33
  have hs1 := B1.size
  have hs2 := B2.size
  have hB2 : Below w.heap.size w w2 := B1.below.trans (B2.below.mono B1.below.size)
  have hck2 := hck w2 hB2
  rw [he] at hck2
  have HCK := Lib.hid hck2
  have HCODE := Lib.hid hcode
  have HC0 := Lib.hid hc
  have HB1 := Lib.hid B1
  have HB2 := Lib.hid B2
  have HB := Lib.hid hB2
  clear hck hck2 B1 B2 hB2
  go_enter Try.func11, Try.ntmps11
  go_wp2_with fail
  rw [← HB1.out.eq, ← HB2.out.eq]
  with_reducible refine HCK.out.mono ?_
  rintro e w3 ⟨rfl, hb3⟩
  have hc3 := (hb3.block w.heap.size (by omega)).trans ((HB2.out.below.block w.heap.size (by omega)).trans HB1.out.blk)
  have cc := cell_of_row w3 w.heap.size 0 _ _ _ hc3
  simp only [List.getElem?_toArray, List.getElem?_cons_zero] at cc
  have hl3 : w.heap.size < w3.heap.size := (Array.getElem?_eq_some_iff.1 hc3).1
  have hr3 := (hb3.block w1.heap.size (by omega)).trans HB2.out.blk
  rw [hs1] at hr3
  have HR3 := Lib.hid hr3
  have HB3 := Lib.hid hb3
  have hs3 := hb3.size
  have HF : Hid (w3.cell? ⟨w.heap.size, 0, none⟩ = some (.slice al nl cl)) := cc
  have HNEW : Hid (∀ w, Calls Try.prog 21 #[] w fun e w' => e = .returned (.pointer (some ⟨w.heap.size, 0, none⟩)) ∧ w' = w.alloc (.cells #[.slice none 0 0] 83)) := fun w => new_any w
  have hmm : ∀ w, (Instr.makeMap 62 none).run Try.prog w = .ok (.map (some w.heap.size)) (w.alloc (.map #[] 0)) := fun w => run_makeMap _ w
  clear hb3 hc3 hr3
  go_wp2_with fail
  go_region_held3 (fun w' => w'.cell? ⟨w.heap.size, 0, none⟩ = some (.slice al nl cl))
    (first | exact HF.out | exact alloc_at _ HF.out | exact alloc_at _ (alloc_at _ HF.out) | exact alloc_at _ (alloc_at _ (alloc_at _ HF.out)))
    (first
      | (go_at_call 21; (with_reducible refine (HNEW.out _).mono ?_); rintro e w4 ⟨rfl, rfl⟩))
  all_goals first
    | (obtain ⟨wM, hwM⟩ : ∃ wM, wM = (((w3.alloc (.map #[] 0)).alloc (.cells #[.slice none 0 0] 83)).alloc (.cells #[.slice al nl cl, .pointer (some ⟨(w3.heap.size + 1), 0, none⟩), .map (some w3.heap.size), .string ⟨inp.toArray⟩, .slice none 0 0, .int .i64 4, .int .i64 0, .string ⟨#[]⟩, .int .i64 0, .int .i64 steps, .int .i64 0, .int .i64 0, .slice none 0 0, .slice none 0 0, .int .i64 0, .pointer none, .bool false, .int .i64 0, .int .i64 0, .string ⟨#[]⟩] 69)).drew := ⟨_, rfl⟩; rw [← hwM]; have X0 : ∃ ρ hb mb, VmO w3 wM ρ (fun _ => .slice none 0 0) (w3.heap.size + 1 + 1) (.slice al nl cl) (start0 inp) steps 0 hb mb (.slice none 0 0) (.slice none 0 0) (.pointer none) [] := ⟨_, (w3.heap.size + 1), w3.heap.size, hwM ▸ VmO.init inp steps ((((Below.refl _ _).alloc (Nat.le_refl _) _).alloc (by simp) _).alloc (by simp; omega) _).drew (heap_mid w3 _ _ _) ⟨#[], 0, heap_low w3 _ _ _, rfl⟩ (heap_new (by simp)) (by omega) (by omega) (by omega) (by omega) (by omega) (by omega)⟩)
    | (obtain ⟨wM, hwM⟩ : ∃ wM, wM = (((w3.alloc (.cells #[.slice none 0 0] 83)).alloc (.map #[] 0)).alloc (.cells #[.slice al nl cl, .pointer (some ⟨w3.heap.size, 0, none⟩), .map (some (w3.heap.size + 1)), .string ⟨inp.toArray⟩, .slice none 0 0, .int .i64 4, .int .i64 0, .string ⟨#[]⟩, .int .i64 0, .int .i64 steps, .int .i64 0, .int .i64 0, .slice none 0 0, .slice none 0 0, .int .i64 0, .pointer none, .bool false, .int .i64 0, .int .i64 0, .string ⟨#[]⟩] 69)).drew := ⟨_, rfl⟩; rw [← hwM]; have X0 : ∃ ρ hb mb, VmO w3 wM ρ (fun _ => .slice none 0 0) (w3.heap.size + 1 + 1) (.slice al nl cl) (start0 inp) steps 0 hb mb (.slice none 0 0) (.slice none 0 0) (.pointer none) [] := ⟨_, w3.heap.size, (w3.heap.size + 1), hwM ▸ VmO.init inp steps ((((Below.refl _ _).alloc (Nat.le_refl _) _).alloc (by simp) _).alloc (by simp; omega) _).drew (heap_low w3 _ _ _) ⟨#[], 0, heap_mid w3 _ _ _, rfl⟩ (heap_new (by simp)) (by omega) (by omega) (by omega) (by omega) (by omega) (by omega)⟩)
  all_goals
    obtain ⟨ρ0, hb, mb, X0⟩ := X0
    clear hwM
    have HM0 := made_any (run_begin X0)
    rw [show (((0 : Nat) : Int)) = 0 from rfl] at HM0
    have HM := Lib.hid HM0
    unfold MadePost St.newV Hp.V.val at HM
    dsimp only at HM
    rw [show (((start0 inp).T.length : Nat) : Int) = 0 from rfl] at HM
    clear HM0
    have HC1 := Lib.hid X0.c.below
    clear X0
    go_wp2_with fail
    with_reducible refine HM.out.mono ?_
    rintro e w5 ⟨rfl, ⟨ρ5, H5, X5, hz5⟩, hs5, hk5⟩
    have hcode3 : CodeAt w3 (.slice al nl cl) c := HCODE.out.bel (HB.out.trans (HB3.out.mono HB.out.size))
    have HCODE3 := Lib.hid hcode3
    have HCA0 := call_any X5 HC0.out hcode3 (start_mo c HC0.out inp) ⟨8, 0, ⟨#[]⟩⟩ [] none 0 (World.ownsRow_nil _ _ _ _) (fun b e => by simp [Value.ownBlock] at e)
    rw [show ([] : List Hp.V).length = 0 from rfl] at HCA0
    have HCA := Lib.hid HCA0
    unfold Hp.V.val at HCA
    dsimp only at HCA
    clear HCA0 X5 hz5 hk5 hcode3
    go_wp2_with fail
    with_reducible refine HCA.out.mono ?_
    rintro e w6 hV
    obtain ⟨rfl, hV2⟩ := hV
    have hst : call c ((start0 inp).made 0 [] false []) ⟨8, 0, ⟨#[]⟩⟩ [] = start c inp := rfl
    rw [hst] at hV2
    have hcok := call_ok HC0.out (start_mo c HC0.out inp) (v := ⟨8, 0, ⟨#[]⟩⟩) (a := []) (fun v hv => nomatch hv)
    rw [hst] at hcok
    have hR0 : Rn w3 w6 (w3.heap.size + 1 + 1) (.slice al nl cl) c inp steps (steps + 1) := ⟨⟨_, steps, 0, 1, hV2, by omega, rfl, hcok.1, by omega, fun e1 e2 => ⟨hcok.2 e1 e2 rfl, call_pos e1 e2, by omega⟩⟩⟩
    have HR0 := Lib.hid hR0
    clear hV2 hst hcok hR0
    go_wp2_with fail
    go_loopg [] (steps + 1) (fun gk wx => Hid (Rn w3 wx (w3.heap.size + 1 + 1) (.slice al nl cl) c inp steps gk))
    case atStart => exact HR0.out
    case round =>
      obtain ⟨s, left, done, n, ⟨ρ, H, hb', mb', ov, rv, fv, cbs, X⟩, hsum, hgo, hmo, hnl, hcu⟩ := (hrel : Hid _).out.ex
      have hmr := X.lt
      have c10 : wr.cell? ⟨w3.heap.size + 1 + 1, 10, none⟩ = some (.int .i64 s.e) := X.cell 10
      have c16 : wr.cell? ⟨w3.heap.size + 1 + 1, 16, none⟩ = some (.bool s.done) := X.cell 16
      by_cases hgoon : s.e = 0 ∧ s.done = false
      · obtain ⟨he0, hd0⟩ := hgoon
        obtain ⟨hu, hpos, hlg⟩ := hcu he0 hd0
        have HRUN := Lib.hid (run_any X HC0.out HCODE3.out hmo hu he0 hd0 hpos (by omega) (by omega))
        have HGO := Lib.hid hgo
        rw [hd0] at c16
        have k1 : (s.e == 0) = true := by rw [he0]; rfl
        clear X hgo hmo hu hcu
        go_wp2_with fail
        with_reducible refine HRUN.out.mono ?_
        rintro e w7 hV
        obtain ⟨rfl, s', left', done', n', hV', hsum', hgo', hmo', hnl', hcu'⟩ := hV
        have HN7 : Hid (Rn w3 w7 (w3.heap.size + 1 + 1) (.slice al nl cl) c inp steps left) := ⟨⟨s', left', done', n', hV', by omega, HGO.out.trans hgo', hmo', by omega, hcu'⟩⟩
        clear hV' hgo' hmo' hcu'
        go_wp2_with fail
        go_roundg left
        case measure => omega
        case rel => exact HN7.out
      · have hst : s.e ≠ 0 ∨ s.done = true := by
          by_cases h : s.e = 0
          · refine .inr ?_
            cases hd : s.done with
            | true => rfl
            | false => exact absurd ⟨h, hd⟩ hgoon
          · exact .inl h
        have HRA := Lib.hid (run_at (c := c) (inp := inp) (by omega) he hgo hst hsum)
        have hB7 := X.c.below
        have hrow := X.c.out
        obtain ⟨ao, co, hov⟩ := own_slice hrow
        subst hov
        have hconv := fun k => conv_out s.out rfl hrow k
        have hconv1 : (convert 65 9 (.slice ao s.out.length co)).run Try.prog wr.drew = .ok (.string ⟨s.out.toArray⟩) wr.drew := hconv 1
        have hconv0 : (convert 65 9 (.slice ao s.out.length co)).run Try.prog wr = .ok (.string ⟨s.out.toArray⟩) wr := hconv 0
        have hconvA : ∀ o, (convert 65 9 (.slice ao s.out.length co)).run Try.prog (wr.alloc o).drew = .ok (.string ⟨s.out.toArray⟩) (wr.alloc o).drew := fun o => conv_out s.out rfl (hrow.alloc o) 1
        have c4 : wr.cell? ⟨w3.heap.size + 1 + 1, 4, none⟩ = some (.slice ao s.out.length co) := X.cell 4
        have c8 : wr.cell? ⟨w3.heap.size + 1 + 1, 8, none⟩ = some (.int .i64 done) := X.cell 8
        have hres := (hB7.block (w.heap.size + 1) (by omega)).trans HR3.out
        obtain ⟨z0, z1, z2, z3, z4, z5, z6, z7, zf⟩ := Res8.of hres
        have y0 := zf 0
        have y1 := zf 1
        have y2 := zf 2
        have y3 := zf 3
        have y4 := zf 4
        have y5 := zf 5
        have y6 := zf 6
        have y7 := zf 7
        have hl7 : w.heap.size + 1 < wr.heap.size := by have := hB7.size; omega
        have HRES := Lib.hid hres
        have hBB : Below w.heap.size w wr := (HB.out.trans (HB3.out.mono HB.out.size)).trans (hB7.mono (by omega))
        have HBB := Lib.hid hBB
        have HX := Lib.hid X
        have HMO := Lib.hid hmo
        clear X hrow hconv hB7 hres zf hBB hmo hgo hcu
        by_cases hz : s.e = 0
        · have hd1 : s.done = true := hst.resolve_left (fun h => h hz)
          rw [hd1] at c16
          have k1 : (s.e == 0) = true := by rw [hz]; rfl
          obtain ⟨w7, B7⟩ := boxed wr #[.int .i64 s.e, .string ⟨s.out.toArray⟩, .int .i64 0, .int .i64 0, .string ⟨#[]⟩, .slice none 0 0, .bool false, .int .i64 done] 33
          have hs7 := B7.size
          have X7 := HX.out.bel B7.below
          have m10 : w7.cell? ⟨w3.heap.size + 1 + 1, 10, none⟩ = some (.int .i64 s.e) := X7.cell 10
          have hm7 := X7.lt
          have hres7 := (B7.below.block (w.heap.size + 1) hl7).trans HRES.out
          have hl8 : w.heap.size + 1 < w7.heap.size := by omega
          have hl9 : wr.heap.size < w7.heap.size := by omega
          have hn7 : wr.heap.size ≠ w.heap.size + 1 := by omega
          have hn8 : w.heap.size + 1 ≠ wr.heap.size := by omega
          have HRES7 := Lib.hid hres7
          have HB7 := Lib.hid B7
          rw [hz] at HB7 m10
          have m1 : w7.cell? ⟨w3.heap.size + 1 + 1, 1, none⟩ = some (.pointer (some ⟨hb', 0, none⟩)) := X7.cell 1
          have m17 : w7.cell? ⟨w3.heap.size + 1 + 1, 17, none⟩ = some (.int .i64 s.told.kind) := X7.cell 17
          have m18 : w7.cell? ⟨w3.heap.size + 1 + 1, 18, none⟩ = some (.int .i64 s.told.int) := X7.cell 18
          have m19 : w7.cell? ⟨w3.heap.size + 1 + 1, 19, none⟩ = some (.string s.told.text) := X7.cell 19
          have hmq : w3.heap.size + 1 + 1 ≠ wr.heap.size := by omega
          have HF7 : Hid (w7.cell? ⟨w3.heap.size + 1 + 1, 1, none⟩ = some (.pointer (some ⟨hb', 0, none⟩)) ∧ w7.cell? ⟨w3.heap.size + 1 + 1, 17, none⟩ = some (.int .i64 s.told.kind) ∧ w7.cell? ⟨w3.heap.size + 1 + 1, 17 + 1, none⟩ = some (.int .i64 s.told.int) ∧ w7.cell? ⟨w3.heap.size + 1 + 1, 17 + 2, none⟩ = some (.string s.told.text)) := ⟨m1, m17, m18, m19⟩
          have HF7a : Hid (w7.drew.drew.cell? ⟨w3.heap.size + 1 + 1, 1, none⟩ = some (.pointer (some ⟨hb', 0, none⟩)) ∧ w7.drew.drew.cell? ⟨w3.heap.size + 1 + 1, 17, none⟩ = some (.int .i64 s.told.kind) ∧ w7.drew.drew.cell? ⟨w3.heap.size + 1 + 1, 17 + 1, none⟩ = some (.int .i64 s.told.int) ∧ w7.drew.drew.cell? ⟨w3.heap.size + 1 + 1, 17 + 2, none⟩ = some (.string s.told.text)) := HF7.out
          have HF7b : Hid (w7.drew.cell? ⟨w3.heap.size + 1 + 1, 1, none⟩ = some (.pointer (some ⟨hb', 0, none⟩)) ∧ w7.drew.cell? ⟨w3.heap.size + 1 + 1, 17, none⟩ = some (.int .i64 s.told.kind) ∧ w7.drew.cell? ⟨w3.heap.size + 1 + 1, 17 + 1, none⟩ = some (.int .i64 s.told.int) ∧ w7.drew.cell? ⟨w3.heap.size + 1 + 1, 17 + 2, none⟩ = some (.string s.told.text)) := HF7.out
          have HTL := Lib.hid (Tell_any (w := w7.drew.drew) s.told (X7.drew 2).c.heap HMO.out.wf HMO.out.told)
          unfold Hp.V.val at HTL
          obtain ⟨q0, q1, q2, q3, q4, q5, q6, q7, qf⟩ := Res8.of B7.blk
          have hbq := B7.blk
          have HBQ := Lib.hid hbq
          have X7L := Lib.hid X7
          clear X7 B7 hres7 qf hbq
          go_wp2_with fail
          go_region
          rw [← HB7.out.eq]
          go_wp2_with fail
          go_region_held3 (fun w' => w'.cell? ⟨w3.heap.size + 1 + 1, 1, none⟩ = some (.pointer (some ⟨hb', 0, none⟩)) ∧ w'.cell? ⟨w3.heap.size + 1 + 1, 17, none⟩ = some (.int .i64 s.told.kind) ∧ w'.cell? ⟨w3.heap.size + 1 + 1, 17 + 1, none⟩ = some (.int .i64 s.told.int) ∧ w'.cell? ⟨w3.heap.size + 1 + 1, 17 + 2, none⟩ = some (.string s.told.text))
            (first | with_reducible exact HF7a.out | with_reducible exact HF7.out | with_reducible exact HF7b.out | with_reducible exact HF8.out | with_reducible exact HF9.out _ _ _ _ | with_reducible exact HF10.out _ _ _ _ _)
            (first
              | (go_at_call 25; (with_reducible refine HTL.out.mono ?_); rintro e w8 ⟨d, ad, cd, rfl, hdt, hb8, hde⟩; have hb78 : Below w7.heap.size w7 w8 := (((Below.refl _ _).drew).drew).trans hb8; have HDT := Lib.hid hdt; have HDE := Lib.hid hde; have HB78 := Lib.hid hb78; have X8 := X7L.out.bel hb78; have n1 : w8.cell? ⟨w3.heap.size + 1 + 1, 1, none⟩ = some (.pointer (some ⟨hb', 0, none⟩)) := X8.cell 1; have n17 : w8.cell? ⟨w3.heap.size + 1 + 1, 17, none⟩ = some (.int .i64 s.told.kind) := X8.cell 17; have n18 : w8.cell? ⟨w3.heap.size + 1 + 1, 18, none⟩ = some (.int .i64 s.told.int) := X8.cell 18; have n19 : w8.cell? ⟨w3.heap.size + 1 + 1, 19, none⟩ = some (.string s.told.text) := X8.cell 19; have HF8 := Lib.hid (And.intro n1 (And.intro n17 (And.intro n18 n19))); have HF9 : Hid (∀ u0 u1 u2 u3 : Value, ((((w8.setCell ⟨wr.heap.size, 2, none⟩ u0).setCell ⟨wr.heap.size, 2 + 1, none⟩ u1).setCell ⟨wr.heap.size, 2 + 2, none⟩ u2).setCell ⟨wr.heap.size, 2 + 3, none⟩ u3).cell? ⟨w3.heap.size + 1 + 1, 1, none⟩ = some (.pointer (some ⟨hb', 0, none⟩)) ∧ ((((w8.setCell ⟨wr.heap.size, 2, none⟩ u0).setCell ⟨wr.heap.size, 2 + 1, none⟩ u1).setCell ⟨wr.heap.size, 2 + 2, none⟩ u2).setCell ⟨wr.heap.size, 2 + 3, none⟩ u3).cell? ⟨w3.heap.size + 1 + 1, 17, none⟩ = some (.int .i64 s.told.kind) ∧ ((((w8.setCell ⟨wr.heap.size, 2, none⟩ u0).setCell ⟨wr.heap.size, 2 + 1, none⟩ u1).setCell ⟨wr.heap.size, 2 + 2, none⟩ u2).setCell ⟨wr.heap.size, 2 + 3, none⟩ u3).cell? ⟨w3.heap.size + 1 + 1, 17 + 1, none⟩ = some (.int .i64 s.told.int) ∧ ((((w8.setCell ⟨wr.heap.size, 2, none⟩ u0).setCell ⟨wr.heap.size, 2 + 1, none⟩ u1).setCell ⟨wr.heap.size, 2 + 2, none⟩ u2).setCell ⟨wr.heap.size, 2 + 3, none⟩ u3).cell? ⟨w3.heap.size + 1 + 1, 17 + 2, none⟩ = some (.string s.told.text)) := fun u0 u1 u2 u3 => ⟨(keep4 hmq).trans n1, (keep4 hmq).trans n17, (keep4 hmq).trans n18, (keep4 hmq).trans n19⟩; have HF10 : Hid (∀ u0 u1 u2 u3 u4 : Value, (((((w8.setCell ⟨wr.heap.size, 2, none⟩ u0).setCell ⟨wr.heap.size, 2 + 1, none⟩ u1).setCell ⟨wr.heap.size, 2 + 2, none⟩ u2).setCell ⟨wr.heap.size, 2 + 3, none⟩ u3).setCell ⟨wr.heap.size, 6, none⟩ u4).cell? ⟨w3.heap.size + 1 + 1, 1, none⟩ = some (.pointer (some ⟨hb', 0, none⟩)) ∧ (((((w8.setCell ⟨wr.heap.size, 2, none⟩ u0).setCell ⟨wr.heap.size, 2 + 1, none⟩ u1).setCell ⟨wr.heap.size, 2 + 2, none⟩ u2).setCell ⟨wr.heap.size, 2 + 3, none⟩ u3).setCell ⟨wr.heap.size, 6, none⟩ u4).cell? ⟨w3.heap.size + 1 + 1, 17, none⟩ = some (.int .i64 s.told.kind) ∧ (((((w8.setCell ⟨wr.heap.size, 2, none⟩ u0).setCell ⟨wr.heap.size, 2 + 1, none⟩ u1).setCell ⟨wr.heap.size, 2 + 2, none⟩ u2).setCell ⟨wr.heap.size, 2 + 3, none⟩ u3).setCell ⟨wr.heap.size, 6, none⟩ u4).cell? ⟨w3.heap.size + 1 + 1, 17 + 1, none⟩ = some (.int .i64 s.told.int) ∧ (((((w8.setCell ⟨wr.heap.size, 2, none⟩ u0).setCell ⟨wr.heap.size, 2 + 1, none⟩ u1).setCell ⟨wr.heap.size, 2 + 2, none⟩ u2).setCell ⟨wr.heap.size, 2 + 3, none⟩ u3).setCell ⟨wr.heap.size, 6, none⟩ u4).cell? ⟨w3.heap.size + 1 + 1, 17 + 2, none⟩ = some (.string s.told.text)) := fun u0 u1 u2 u3 u4 => ⟨(cell_set_block _ _ hmq).trans ((keep4 hmq).trans n1), (cell_set_block _ _ hmq).trans ((keep4 hmq).trans n17), (cell_set_block _ _ hmq).trans ((keep4 hmq).trans n18), (cell_set_block _ _ hmq).trans ((keep4 hmq).trans n19)⟩; have hbq8 := (hb78.block wr.heap.size hl9).trans HBQ.out; have HBQ8 := Lib.hid hbq8; obtain ⟨r0, r1, r2, r3, r4, r5, r6, r7, rf⟩ := Res8.of hbq8; have rf2 := rf 2; have rf3 := rf 3; have rf4 := rf 4; have rf5 := rf 5; have rf6 := rf 6; have hres8 := (hb78.block (w.heap.size + 1) hl8).trans HRES7.out; have HRES8 := Lib.hid hres8; obtain ⟨t0, t1, t2, t3, t4, t5, t6, t7, tf⟩ := Res8.of hres8; have tf0 := tf 0; have tf1 := tf 1; have tf2 := tf 2; have tf3 := tf 3; have tf4 := tf 4; have tf5 := tf 5; have tf6 := tf 6; have tf7 := tf 7; have hl88 : w.heap.size + 1 < w8.heap.size := Nat.lt_of_lt_of_le hl8 hb78.size; have hl98 : wr.heap.size < w8.heap.size := Nat.lt_of_lt_of_le hl9 hb78.size; have hm8 := X8.lt; clear hdt hb8 hde hb78 X8 hbq8 rf hres8 tf))
          all_goals
            go_wp2_with fail
            refine bodyPost_ret (res1 rfl _ _ (w.heap.size + 1) 33 _ (0, 0) rfl (out_set _ _ _ _ _ _ _ _ _ _ _ _ _ _ _ _ _ _ (five_at hn8 HRES8.out)) outcomeD outcomeSize) rfl ?_
            rw [HRA.out, if_pos hz, hz]
            have hb8 : Below w.heap.size w w8 := (HBB.out.trans (HB7.out.below.mono HBB.out.size)).trans (HB78.out.mono (by omega))
            have hq : w.heap.size ≤ wr.heap.size := by omega
            refine ⟨d, ad, cd, ?_, ?_, ?_, HDE.out⟩
            · rfl
            · refine HDT.out.same (fun b h1 h2 => ?_) ?_ fun b h1 h2 => ?_
              · have h3 : w7.heap.size ≤ b := h1
                omega
              · simp [World.setCell]
              · have h3 : w7.heap.size ≤ b := h1
                have e1 : b ≠ wr.heap.size := by omega
                have e2 : b ≠ w.heap.size + 1 := by omega
                rw [heap_setCell_other _ _ _ _ e2, heap_setCell_other _ _ _ _ e2, heap_setCell_other _ _ _ _ e2, heap_setCell_other _ _ _ _ e2, heap_setCell_other _ _ _ _ e2, heap_setCell_other _ _ _ _ e2, heap_setCell_other _ _ _ _ e2, heap_setCell_other _ _ _ _ e2, heap_setCell_other _ _ _ _ e1, heap_setCell_other _ _ _ _ e1, heap_setCell_other _ _ _ _ e1, heap_setCell_other _ _ _ _ e1, heap_setCell_other _ _ _ _ e1]
            · exact below8 (((((hb8.setCell (p := ⟨wr.heap.size, 2, none⟩) hq _).setCell (p := ⟨wr.heap.size, 3, none⟩) hq _).setCell (p := ⟨wr.heap.size, 4, none⟩) hq _).setCell (p := ⟨wr.heap.size, 5, none⟩) hq _).setCell (p := ⟨wr.heap.size, 6, none⟩) hq _) (Nat.le_succ _) _ _ _ _ _ _ _ _
        · have k1 : (s.e == 0) = false := beq_eq_false_iff_ne.2 hz
          obtain ⟨w7, B7⟩ := boxed wr #[.int .i64 s.e, .string ⟨s.out.toArray⟩, .int .i64 0, .int .i64 0, .string ⟨#[]⟩, .slice none 0 0, .bool false, .int .i64 done] 33
          have hs7 := B7.size
          have X7 := HX.out.bel B7.below
          have m10 : w7.cell? ⟨w3.heap.size + 1 + 1, 10, none⟩ = some (.int .i64 s.e) := X7.cell 10
          have hm7 := X7.lt
          have hres7 := (B7.below.block (w.heap.size + 1) hl7).trans HRES.out
          have hl8 : w.heap.size + 1 < w7.heap.size := by omega
          have hl9 : wr.heap.size < w7.heap.size := by omega
          have hn7 : wr.heap.size ≠ w.heap.size + 1 := by omega
          have hn8 : w.heap.size + 1 ≠ wr.heap.size := by omega
          have HRES7 := Lib.hid hres7
          have HB7 := Lib.hid B7
          obtain ⟨t0, t1, t2, t3, t4, t5, t6, t7, tf⟩ := Res8.of hres7
          have tf0 := tf 0
          have tf1 := tf 1
          have tf2 := tf 2
          have tf3 := tf 3
          have tf4 := tf 4
          have tf5 := tf 5
          have tf6 := tf 6
          have tf7 := tf 7
          obtain ⟨q0, q1, q2, q3, q4, q5, q6, q7, qf⟩ := Res8.of B7.blk
          clear hres7 tf qf B7 X7
          go_wp2_with fail
          go_region
          rw [← HB7.out.eq]
          go_wp2_with fail
          refine bodyPost_ret (res1 rfl _ _ (w.heap.size + 1) 33 _ (0, 0) rfl (drew_at (out_set _ _ _ _ _ _ _ _ _ _ _ _ _ _ _ _ _ _ HRES7.out)) outcomeD outcomeSize) rfl ?_
          rw [HRA.out, if_neg hz]
          refine ⟨.mk 0 0 ⟨#[]⟩ [], none, 0, ?_, .nil _ _ _, ?_, ?_⟩
          · rfl
          · exact (below8 (HBB.out.trans (HB7.out.below.mono HBB.out.size)) (Nat.le_succ _) _ _ _ _ _ _ _ _).drew
          · rfl
end
end Vm
end Go.Proofs.Ytalfnaielhbocaa
namespace Go.Proofs.Ytalfnaielhbocaa
open Go.RowKit
set_option linter.unusedVariables false
set_option linter.unusedSimpArgs false
namespace Vm
theorem run_far {c : Code} {inp : List UInt8} {steps : Int} (h : steps < 0 ∨ 1000000 < steps) : run c inp steps = ⟨1, ⟨#[]⟩, none, 0⟩ := by
  unfold run
  rw [if_pos h]
theorem run_form {c : Code} {inp : List UInt8} {steps : Int} (h : ¬ (steps < 0 ∨ 1000000 < steps)) (hc : chk c ≠ 0) : run c inp steps = ⟨chk c, ⟨#[]⟩, none, 0⟩ := by
  unfold run
  rw [if_neg h, if_pos hc]
theorem Run_any {w : World} {c : Code} (inp : List UInt8) (steps : Int) (al : Option Addr) (cl : Nat) (h1 : steps ≤ 800000 ∨ 1000000 < steps) (hcode : CodeAt w (.slice al c.length cl) c) (hlen : c.length ≤ 1000000000000000) (hfit : ∀ p ∈ c, PrcFit p) :
    Calls Try.prog 11 #[.agg #[.slice al c.length cl], .string ⟨inp.toArray⟩, .int .i64 steps] w (OutPost (run c inp steps) w) := by
  by_cases hs : steps < 0 ∨ 1000000 < steps
  · rw [run_far hs]
    exact Run_steps _ _ _ _ _ (by omega)
  · by_cases he : chk c = 0
    · obtain ⟨n, rfl⟩ : ∃ n : Nat, steps = n := ⟨steps.toNat, by omega⟩
      exact Run_good inp n al c.length cl (by omega) (chk_is al cl hcode hlen hfit) he (codeOk he hfit) hcode
    · rw [run_form hs he]
      exact Run_form _ _ _ _ _ (by omega) (by omega) (chk_is al cl hcode hlen hfit) he
def code1 (regs : Int) (l : List Ins) (x : Fin) : Code := [⟨0, 0, regs, [⟨l, x⟩]⟩]
def fxA : Code := code1 1 [⟨sConst, 0, [], .mk 1 5 ⟨#[]⟩ [], 0⟩] ⟨2, 0, [], 0, 0, 0⟩
def fxB : Code := code1 1 [] ⟨3, 0, [], 0, 0, 0⟩
def fxC : Code := code1 1 [] ⟨0, 0, [], 0, 0, 0⟩
theorem run_of {c : Code} {inp : List UInt8} {n : Nat} (h : n ≤ 1000000) (hc : chk c = 0) {s : St} {left : Nat} (hg : go c n (start c inp) = (s, left)) : run c inp n = ⟨s.e, ⟨s.out.toArray⟩, if s.e = 0 then Hp.tellT s.T s.told else none, (n : Int) - left⟩ := by
  unfold run
  rw [if_neg (by omega), if_neg (by rw [hc]; decide), Int.toNat_natCast, hg]
theorem tell_int (T : List Hp.Th) (n : Int) (h : isN n = true) : Hp.tellT T ⟨1, n, ⟨#[]⟩⟩ = some (.mk 1 n ⟨#[]⟩ []) := by
  have hm : Hp.may T.length ⟨1, n, ⟨#[]⟩⟩ = true := h
  rw [Hp.tellT, if_pos hm]
  rfl
theorem fxA_run : run fxA [] 10 = ⟨0, ⟨#[]⟩, some (.mk 1 5 ⟨#[]⟩ []), 2⟩ := by
  obtain ⟨s, left, h⟩ : ∃ s left, go fxA 10 (start fxA []) = (s, left) := ⟨_, _, rfl⟩
  have h1 : s.e = 0 := by rw [show s = (go fxA 10 (start fxA [])).1 by rw [h]]; decide +kernel
  have h2 : s.out = [] := by rw [show s = (go fxA 10 (start fxA [])).1 by rw [h]]; decide +kernel
  have h3 : left = 8 := by rw [show left = (go fxA 10 (start fxA [])).2 by rw [h]]; decide +kernel
  have h4 : s.told.kind = 1 ∧ s.told.int = 5 ∧ s.told.text = ⟨#[]⟩ := by rw [show s = (go fxA 10 (start fxA [])).1 by rw [h]]; decide +kernel
  have := run_of (c := fxA) (inp := []) (n := 10) (by decide) (by decide +kernel) h
  rw [show run fxA [] 10 = run fxA [] ((10 : Nat) : Int) from rfl, this, h1, h2, h3]
  have h5 : Hp.tellT s.T s.told = some (.mk 1 5 ⟨#[]⟩ []) := by
    have hv : s.told = ⟨1, 5, ⟨#[]⟩⟩ := by
      revert h4
      generalize s.told = v
      rintro ⟨h1, h2, h3⟩
      obtain ⟨a, b, c⟩ := v
      dsimp only at h1 h2 h3
      rw [h1, h2, h3]
    rw [hv]
    exact tell_int s.T 5 (by decide +kernel)
  rw [if_pos rfl, h5]
  rfl
theorem fxB_run : ∃ o st, run fxB [] 10 = ⟨90, o, none, st⟩ := by
  obtain ⟨s, left, h⟩ : ∃ s left, go fxB 10 (start fxB []) = (s, left) := ⟨_, _, rfl⟩
  have h1 : s.e = 90 := by rw [show s = (go fxB 10 (start fxB [])).1 by rw [h]]; decide +kernel
  have := run_of (c := fxB) (inp := []) (n := 10) (by decide) (by decide +kernel) h
  rw [h1, if_neg (by decide)] at this
  exact ⟨_, _, this⟩
theorem fxC_run : ∃ o st, run fxC [] 10 = ⟨93, o, none, st⟩ := by
  obtain ⟨s, left, h⟩ : ∃ s left, go fxC 10 (start fxC []) = (s, left) := ⟨_, _, rfl⟩
  have h1 : s.e = 93 := by rw [show s = (go fxC 10 (start fxC [])).1 by rw [h]]; decide +kernel
  have := run_of (c := fxC) (inp := []) (n := 10) (by decide) (by decide +kernel) h
  rw [h1, if_neg (by decide)] at this
  exact ⟨_, _, this⟩
end Vm
end Go.Proofs.Ytalfnaielhbocaa
namespace Go.Proofs.Ytalfnaielhbocaa
open Go.RowKit
set_option linter.unusedVariables false
set_option linter.unusedSimpArgs false
set_option maxRecDepth 100000
namespace Vm
theorem codeD : ∃ fs, Try.prog.underlying 24 = some (.struct fs) := ⟨_, Try.underlying24⟩
theorem codeSize : (Try.prog.info? 24).map (·.size) = some 1 := by kernel_rfl
theorem row_one {α : Type} {w : World} {size b : Nat} {x : α} {R : α → Nat → Nat → Prop} (hb : b < w.heap.size) (h : R x b 0) : Row w (.slice (some ⟨b, 0, none⟩) 1 1) size [x] R :=
  ⟨_, 1, rfl, .inr ⟨b, 0, rfl, hb, fun j y hy => by
    cases j with
    | zero =>
      simp at hy
      subst hy
      rw [Nat.zero_mul]
      exact h
    | succ j => simp at hy⟩⟩
set_option maxHeartbeats 4000000 in
theorem one_any (regs : Int) (l : List Ins) (al : Option Addr) (cl : Nat) (x : Fin) (aa : Option Addr) (ca : Nat) (w : World) (hl : Row w (.slice al l.length cl) 8 l (InsC w)) (ha : Sl w (.slice aa x.args.length ca) (ints x.args)) :
    Calls Try.prog 17 #[.int .i64 regs, .slice al l.length cl, finV x (.slice aa x.args.length ca)] w fun e w' => ∃ b, e = .returned (.agg #[.slice (some ⟨b, 0, none⟩) 1 1]) ∧ CodeAt w' (.slice (some ⟨b, 0, none⟩) 1 1) (code1 regs l x) ∧ Below w.heap.size w w' := by
  have HL := Lib.hid hl
  have HA := Lib.hid ha
  clear hl ha
  unfold finV
  go_enter Try.func17, Try.ntmps17
  go_wp2_with fail
  generalize hW2 : (w.alloc (Obj.cells #[.int .i64 x.kind, .int .i64 x.reg, .slice aa x.args.length ca, .int .i64 x.to, .int .i64 x.next, .int .i64 x.els] 45)).alloc (Obj.cells #[.slice (some ⟨w.heap.size + 1 + 1 + 1, 0, none⟩) 1 1] 24) = W2
  have hs2 : W2.heap.size = w.heap.size + 1 + 1 := by rw [← hW2]; simp
  have hb2 : Below w.heap.size w W2 := by rw [← hW2]; exact ((Below.refl _ _).alloc (Nat.le_refl _) _).alloc (by simp) _
  have hc2 : W2.heap[w.heap.size + 1]? = some (.cells #[.slice (some ⟨w.heap.size + 1 + 1 + 1, 0, none⟩) 1 1] 24 (0, 0)) := by rw [← hW2]; exact heap_new (by simp)
  clear hW2
  generalize hW3 : W2.alloc (Obj.cells #[.slice al l.length cl, .int .i64 x.kind, .int .i64 x.reg, .slice aa x.args.length ca, .int .i64 x.to, .int .i64 x.next, .int .i64 x.els] 48) = W3
  have hs3 : W3.heap.size = w.heap.size + 1 + 1 + 1 := by rw [← hW3]; simp [hs2]
  have hb3 : Below W2.heap.size W2 W3 := by rw [← hW3]; exact (Below.refl _ _).alloc (Nat.le_refl _) _
  have hc3 : W3.heap[w.heap.size + 1 + 1]? = some (.cells #[.slice al l.length cl, .int .i64 x.kind, .int .i64 x.reg, .slice aa x.args.length ca, .int .i64 x.to, .int .i64 x.next, .int .i64 x.els] 48 (0, 0)) := by rw [← hW3]; exact heap_new (by rw [hs2])
  clear hW3
  generalize hW4 : W3.alloc (Obj.cells #[.int .i64 0, .int .i64 0, .int .i64 regs, .slice (some ⟨w.heap.size + 1 + 1, 0, none⟩) 1 1] 40) = W4
  have hs4 : W4.heap.size = w.heap.size + 1 + 1 + 1 + 1 := by rw [← hW4]; simp [hs3]
  have hb4 : Below W3.heap.size W3 W4 := by rw [← hW4]; exact (Below.refl _ _).alloc (Nat.le_refl _) _
  have hc4 : W4.heap[w.heap.size + 1 + 1 + 1]? = some (.cells #[.int .i64 0, .int .i64 0, .int .i64 regs, .slice (some ⟨w.heap.size + 1 + 1, 0, none⟩) 1 1] 40 (0, 0)) := by rw [← hW4]; exact heap_new (by rw [hs3])
  clear hW4
  have hb : Below w.heap.size w W4 := (hb2.trans (hb3.mono hb2.size)).trans (hb4.mono (by omega))
  have hq2 : W4.heap[w.heap.size + 1]? = some (.cells #[.slice (some ⟨w.heap.size + 1 + 1 + 1, 0, none⟩) 1 1] 24 (0, 0)) := (hb4.block _ (by omega)).trans ((hb3.block _ (by omega)).trans hc2)
  have hq3 := (hb4.block (w.heap.size + 1 + 1) (by omega)).trans hc3
  refine bodyPost_ret (res1 rfl _ _ (w.heap.size + 1) 24 _ (0, 0) rfl hq2 codeD codeSize) rfl ?_
  refine ⟨w.heap.size + 1 + 1 + 1, rfl, row_one (by omega) ⟨cell_of_row _ _ 0 _ _ _ hc4, cell_of_row _ _ 1 _ _ _ hc4, cell_of_row _ _ 2 _ _ _ hc4, _, cell_of_row _ _ 3 _ _ _ hc4, row_one (by omega) ?_⟩, hb⟩
  exact ⟨⟨_, cell_of_row _ _ 0 _ _ _ hq3, HL.out.mono hb.size fun y _ b o hlt h => h.bel hb hlt⟩, cell_of_row _ _ 1 _ _ _ hq3, cell_of_row _ _ 2 _ _ _ hq3, ⟨_, cell_of_row _ _ 3 _ _ _ hq3, HA.out.below hb (Nat.le_refl _)⟩, cell_of_row _ _ 4 _ _ _ hq3, cell_of_row _ _ 5 _ _ _ hq3, cell_of_row _ _ 6 _ _ _ hq3⟩
theorem lnum_any (n : Int) (w : World) : Calls Try.prog 16 #[.int .i64 n] w fun e w' => e = .returned (.agg #[.int .i64 1, .int .i64 n, .string ⟨#[]⟩, .slice none 0 0]) ∧ Below w.heap.size w w' := by
  go_enter Try.func16, Try.ntmps16
  go_wp2_with fail
  refine bodyPost_ret (res1 rfl _ _ w.heap.size 31 _ (0, 0) rfl (heap_new (by simp)) datumD datumSize) rfl ?_
  exact ⟨rfl, (Below.refl _ _).alloc (Nat.le_refl _) _⟩
end Vm
end Go.Proofs.Ytalfnaielhbocaa
namespace Go.Proofs.Ytalfnaielhbocaa
open Go.RowKit
set_option linter.unusedVariables false
set_option linter.unusedSimpArgs false
set_option maxRecDepth 100000
namespace Vm
theorem fit_leaf (k i : Int) (t : ByteArray) (h : t.size ≤ maxLen) : Dt.Fit (.mk k i t []) := .mk k i t [] h (by simp) (by simp)
theorem fxA_fit : ∀ p ∈ fxA, PrcFit p := by
  intro p hp
  simp [fxA, code1] at hp
  subst hp
  refine ⟨by decide, fun b hb => ?_⟩
  simp at hb
  subst hb
  refine ⟨by decide, by decide, fun x hx => ?_⟩
  simp at hx
  subst hx
  exact ⟨by decide, fit_leaf _ _ _ (by decide)⟩
theorem fx0_fit (x : Fin) (hx : x.args.length ≤ 9223372036854775807) : ∀ p ∈ code1 1 [] x, PrcFit p := by
  intro p hp
  simp [code1] at hp
  subst hp
  refine ⟨by simp, fun b hb => ?_⟩
  simp at hb
  subst hb
  exact ⟨by simp, hx, fun x hx => by simp at hx⟩
theorem sl_nil (w : World) : Sl w (.slice none 0 0) (ints []) := ⟨none, 0, rfl, .inl ⟨rfl, rfl, rfl⟩⟩
theorem row_nil {α : Type} (w : World) (size : Nat) (R : α → Nat → Nat → Prop) : Row w (.slice none 0 0) size ([] : List α) R := ⟨none, 0, rfl, .inl rfl⟩
abbrev outV (e : Int) (o : ByteArray) (k i : Int) (t : ByteArray) (lv : Value) (ok : Bool) (n : Int) : Value := .agg #[.int .i64 e, .string o, .int .i64 k, .int .i64 i, .string t, lv, .bool ok, .int .i64 n]
theorem fx_oneA (w : World) : Calls Try.prog 17 #[.int .i64 1, .slice (some ⟨w.heap.size, 0, none⟩) 1 1, .agg #[.int .i64 2, .int .i64 0, .slice none 0 0, .int .i64 0, .int .i64 0, .int .i64 0]]
    (w.alloc (.cells #[.string ⟨#[99, 111, 110, 115, 116]⟩, .int .i64 0, .slice none 0 0, .int .i64 1, .int .i64 5, .string ⟨#[]⟩, .slice none 0 0, .int .i64 0] 55)) fun e w' => ∃ b, e = .returned (.agg #[.slice (some ⟨b, 0, none⟩) 1 1]) ∧ CodeAt w' (.slice (some ⟨b, 0, none⟩) 1 1) fxA ∧ Below w.heap.size w w' := by
  generalize hW : w.alloc (.cells #[.string ⟨#[99, 111, 110, 115, 116]⟩, .int .i64 0, .slice none 0 0, .int .i64 1, .int .i64 5, .string ⟨#[]⟩, .slice none 0 0, .int .i64 0] 55) = W
  have hs : W.heap.size = w.heap.size + 1 := by rw [← hW]; simp
  have hb : Below w.heap.size w W := by rw [← hW]; exact (Below.refl _ _).alloc (Nat.le_refl _) _
  have hc : W.heap[w.heap.size]? = some (.cells #[.string ⟨#[99, 111, 110, 115, 116]⟩, .int .i64 0, .slice none 0 0, .int .i64 1, .int .i64 5, .string ⟨#[]⟩, .slice none 0 0, .int .i64 0] 55 (0, 0)) := by rw [← hW]; exact heap_new rfl
  clear hW
  have hrow : Row W (.slice (some ⟨w.heap.size, 0, none⟩) 1 1) 8 [(⟨sConst, 0, [], .mk 1 5 ⟨#[]⟩ [], 0⟩ : Ins)] (InsC W) :=
    row_one (by omega) ⟨cell_of_row _ _ 0 _ _ _ hc, cell_of_row _ _ 1 _ _ _ hc, ⟨_, cell_of_row _ _ 2 _ _ _ hc, sl_nil _⟩, cell_of_row _ _ 3 _ _ _ hc, cell_of_row _ _ 4 _ _ _ hc, cell_of_row _ _ 5 _ _ _ hc, ⟨_, cell_of_row _ _ 6 _ _ _ hc, .nil _ _ _⟩, cell_of_row _ _ 7 _ _ _ hc⟩
  refine Calls.mono (one_any 1 [⟨sConst, 0, [], .mk 1 5 ⟨#[]⟩ [], 0⟩] _ 1 ⟨2, 0, [], 0, 0, 0⟩ none 0 W hrow (sl_nil _)) ?_
  rintro e w' ⟨b, rfl, h1, h2⟩
  exact ⟨b, rfl, h1, hb.trans (h2.mono (by omega))⟩
theorem fx_one0 (k : Int) (w : World) : Calls Try.prog 17 #[.int .i64 1, .slice none 0 0, .agg #[.int .i64 k, .int .i64 0, .slice none 0 0, .int .i64 0, .int .i64 0, .int .i64 0]] w fun e w' => ∃ b, e = .returned (.agg #[.slice (some ⟨b, 0, none⟩) 1 1]) ∧ CodeAt w' (.slice (some ⟨b, 0, none⟩) 1 1) (code1 1 [] ⟨k, 0, [], 0, 0, 0⟩) ∧ Below w.heap.size w w' :=
  one_any 1 [] none 0 ⟨k, 0, [], 0, 0, 0⟩ none 0 w (row_nil _ _ _) (sl_nil _)
theorem fx_runA (b : Nat) (w : World) (h : CodeAt w (.slice (some ⟨b, 0, none⟩) 1 1) fxA) : Calls Try.prog 11 #[.agg #[.slice (some ⟨b, 0, none⟩) 1 1], .string ⟨#[]⟩, .int .i64 10] w
    fun e w' => ∃ a c, e = .returned (outV 0 ⟨#[]⟩ 1 5 ⟨#[]⟩ (.slice a 0 c) true 2) ∧ DtAt w' (fun b => w.heap.size ≤ b) (.agg #[.int .i64 1, .int .i64 5, .string ⟨#[]⟩, .slice a 0 c]) (.mk 1 5 ⟨#[]⟩ []) ∧ Below w.heap.size w w' := by
  have hl : fxA.length ≤ 1000000000000000 := by simp [fxA, code1]
  have H := Run_any [] 10 (some ⟨b, 0, none⟩) 1 (.inl (by decide)) h hl fxA_fit
  have e1 : fxA.length = 1 := rfl
  rw [e1] at H
  refine H.mono ?_
  rintro e w' ⟨d, a, c, rfl, hd, hb, hr⟩
  rw [fxA_run] at hr ⊢
  simp only [Option.getD_some] at hr
  subst hr
  exact ⟨a, c, rfl, hd, hb⟩
theorem fx_run0 (x : Fin) (hx : x.args.length ≤ 9223372036854775807) (E : Int) (hr : ∃ o st, run (code1 1 [] x) [] 10 = ⟨E, o, none, st⟩) (b : Nat) (w : World) (h : CodeAt w (.slice (some ⟨b, 0, none⟩) 1 1) (code1 1 [] x)) : Calls Try.prog 11 #[.agg #[.slice (some ⟨b, 0, none⟩) 1 1], .string ⟨#[]⟩, .int .i64 10] w
    fun e w' => ∃ o k i t la ln lc n, e = .returned (outV E o k i t (.slice la ln lc) false n) ∧ Below w.heap.size w w' := by
  obtain ⟨o, st, hr⟩ := hr
  have hl : (code1 1 [] x).length ≤ 1000000000000000 := by simp [code1]
  have H := Run_any [] 10 (some ⟨b, 0, none⟩) 1 (.inl (by decide)) h hl (fx0_fit x hx)
  have e1 : (code1 1 [] x).length = 1 := rfl
  rw [e1] at H
  refine H.mono ?_
  rintro e w' ⟨d, a, c, rfl, hd, hb, hd2⟩
  rw [hr]
  exact ⟨o, _, _, _, _, _, _, st, rfl, hb⟩
theorem chk_nil (w : World) : Calls Try.prog 9 #[.agg #[.slice none 0 0]] w fun e w' => e = .returned (.int .i64 150) ∧ Below w.heap.size w w' :=
  Check_any (c := []) none 0 (row_nil _ _ _) (by decide) (fun p hp => by simp at hp)
abbrev FxS (w : World) (b1 b2 b3 : Nat) (lv : Value) : Prop := w.cell? ⟨b1, 0, none⟩ = some (.int .i64 0) ∧ w.cell? ⟨b1, 6, none⟩ = some (.bool true) ∧ w.cell? ⟨b1, 2, none⟩ = some (.int .i64 1) ∧ w.cell? ⟨b1, 3, none⟩ = some (.int .i64 5) ∧ w.cell? ⟨b1, 4, none⟩ = some (.string ⟨#[]⟩) ∧ w.cell? ⟨b1, 5, none⟩ = some lv ∧ w.cell? ⟨b1, 7, none⟩ = some (.int .i64 2) ∧ w.cell? ⟨b2, 0, none⟩ = some (.int .i64 90) ∧ w.cell? ⟨b3, 0, none⟩ = some (.int .i64 93)
theorem FxS.bel {w w' : World} {b1 b2 b3 : Nat} {lv : Value} (h : FxS w b1 b2 b3 lv) (hb : Below w.heap.size w w') (h1 : b1 < w.heap.size ∧ b2 < w.heap.size ∧ b3 < w.heap.size) : FxS w' b1 b2 b3 lv := by
  obtain ⟨l1, l2, l3⟩ := h1
  obtain ⟨c0, c1, c2, c3, c4, c5, c6, c7, c8⟩ := h
  exact ⟨(cell_bel hb l1).trans c0, (cell_bel hb l1).trans c1, (cell_bel hb l1).trans c2, (cell_bel hb l1).trans c3, (cell_bel hb l1).trans c4, (cell_bel hb l1).trans c5, (cell_bel hb l1).trans c6, (cell_bel hb l2).trans c7, (cell_bel hb l3).trans c8⟩
set_option maxHeartbeats 8000000 in
theorem fixed_any (w : World) : Calls Try.prog 8 #[] w fun e w' => e = .returned (.bool true) ∧ Below w.heap.size w w' := by
  have HFXB : Hid (∃ o st, run (code1 1 [] ⟨3, 0, [], 0, 0, 0⟩) [] 10 = ⟨90, o, none, st⟩) := fxB_run
  have HFXC : Hid (∃ o st, run (code1 1 [] ⟨0, 0, [], 0, 0, 0⟩) [] 10 = ⟨93, o, none, st⟩) := fxC_run
  go_enter Try.func8, Try.ntmps8
  go_wp2_with fail
  with_reducible refine (lnum_any 5 _).mono ?_
  rintro e w1 ⟨rfl, hb1⟩
  have HB1 := Lib.hid hb1
  clear hb1
  go_wp2_with fail
  with_reducible refine (fx_oneA w1).mono ?_
  rintro e w2 ⟨b2, rfl, hc2, hb2⟩
  have HC2 := Lib.hid hc2
  have HB2 := Lib.hid (HB1.out.trans (hb2.mono HB1.out.size))
  clear hb2 hc2
  go_wp2_with fail
  with_reducible refine (fx_runA b2 w2 HC2.out).mono ?_
  rintro e w3 ⟨a3, c3, rfl, hd3, hb3⟩
  have HD3 := Lib.hid hd3
  have HB3 := Lib.hid (HB2.out.trans (hb3.mono HB2.out.size))
  clear hb3 hd3
  obtain ⟨w4, B4⟩ := boxed w3 #[.int .i64 0, .string ⟨#[]⟩, .int .i64 1, .int .i64 5, .string ⟨#[]⟩, .slice a3 0 c3, .bool true, .int .i64 2] 33
  have HX4 := Lib.hid B4
  have HQ4 := Lib.hid B4.below
  have hs4 := B4.size
  clear B4
  go_wp2_with fail
  rw [← HX4.out.eq]
  with_reducible refine (fx_one0 3 w4).mono ?_
  rintro e w5 ⟨b5, rfl, hc5, hb5⟩
  have HC5 := Lib.hid hc5
  have HQ5 := Lib.hid (HQ4.out.trans (hb5.mono HQ4.out.size))
  have HR5 := Lib.hid hb5
  have HL5 : Hid (w3.heap.size + 1 ≤ w5.heap.size) := by have := hb5.size; exact (by omega : w3.heap.size + 1 ≤ w5.heap.size)
  clear hc5 hb5
  go_wp2_with fail
  with_reducible refine (fx_run0 ⟨3, 0, [], 0, 0, 0⟩ (by decide) 90 HFXB.out b5 w5 HC5.out).mono ?_
  rintro e w6 ⟨o6, k6, i6, t6, la6, ln6, lc6, n6, rfl, hb6⟩
  have HQ6 := Lib.hid (HQ5.out.trans (hb6.mono HQ5.out.size))
  have HR6 := Lib.hid (HR5.out.trans (hb6.mono HR5.out.size))
  have HL6 : Hid (w3.heap.size + 1 ≤ w6.heap.size) := Nat.le_trans HL5.out hb6.size
  clear hb6
  obtain ⟨w7, B7⟩ := boxed w6 #[.int .i64 90, .string o6, .int .i64 k6, .int .i64 i6,   .string t6, .slice la6 ln6 lc6, .bool false, .int .i64 n6] 33
  have HX7 := Lib.hid B7
  have HQ7 := Lib.hid (HQ6.out.trans (B7.below.mono HQ6.out.size))
  have hs7 := B7.size
  clear B7
  go_wp2_with fail
  rw [← HX7.out.eq]
  with_reducible refine (fx_one0 0 w7).mono ?_
  rintro e w8 ⟨b8, rfl, hc8, hb8⟩
  have HC8 := Lib.hid hc8
  have HB8 := Lib.hid hb8
  clear hc8 hb8
  go_wp2_with fail
  with_reducible refine (fx_run0 ⟨0, 0, [], 0, 0, 0⟩ (by decide) 93 HFXC.out b8 w8 HC8.out).mono ?_
  rintro e w9 ⟨o9, k9, i9, t9, la9, ln9, lc9, n9, rfl, hb9⟩
  have HB9 := Lib.hid (HB8.out.trans (hb9.mono HB8.out.size))
  have HL9 : Hid (w6.heap.size + 1 ≤ w9.heap.size) := by have := HB9.out.size; exact (by omega : w6.heap.size + 1 ≤ w9.heap.size)
  clear hb9
  obtain ⟨w10, B10⟩ := boxed w9 #[.int .i64 93, .string o9, .int .i64 k9, .int .i64 i9,   .string t9, .slice la9 ln9 lc9, .bool false, .int .i64 n9] 33
  have HX10 := Lib.hid B10
  have HB10 := Lib.hid (HB9.out.trans (B10.below.mono HB9.out.size))
  have hs10 := B10.size
  clear B10
  have HQ10 := Lib.hid (HQ7.out.trans (HB10.out.mono HQ7.out.size))
  have HFS : Hid (FxS w10 w3.heap.size w6.heap.size w9.heap.size (.slice a3 0 c3)) := by
    have l6 := HL6.out
    have l9 := HL9.out
    have q1 : w10.heap[w3.heap.size]? = _ := (HX10.out.below.block _ (by omega)).trans ((HB9.out.block _ (by omega)).trans ((HX7.out.below.block _ (by omega)).trans ((HR6.out.block _ (by omega)).trans HX4.out.blk)))
    have q2 : w10.heap[w6.heap.size]? = _ := (HX10.out.below.block _ (by omega)).trans ((HB9.out.block _ (by omega)).trans HX7.out.blk)
    have q3 := HX10.out.blk
    exact ⟨cell_of_row _ _ 0 _ _ _ q1, cell_of_row _ _ 6 _ _ _ q1, cell_of_row _ _ 2 _ _ _ q1, cell_of_row _ _ 3 _ _ _ q1, cell_of_row _ _ 4 _ _ _ q1, cell_of_row _ _ 5 _ _ _ q1, cell_of_row _ _ 7 _ _ _ q1, cell_of_row _ _ 0 _ _ _ q2, cell_of_row _ _ 0 _ _ _ q3⟩
  have HL10 : Hid (w3.heap.size < w10.heap.size ∧ w6.heap.size < w10.heap.size ∧ w9.heap.size < w10.heap.size) := by
    have := HL6.out
    have := HL9.out
    exact ⟨by omega, by omega, by omega⟩
  have HSH : Hid (Dt.Short (.mk 1 5 ⟨#[]⟩ [])) := Dt.short_of (by simp [Dt.nodes, Dt.nodess])
  have HD10 : Hid (DtAt w10 (fun b => w2.heap.size ≤ b) (.agg #[.int .i64 1, .int .i64 5, .string ⟨#[]⟩, .slice a3 0 c3]) (.mk 1 5 ⟨#[]⟩ [])) := HD3.out.bel HQ10.out (Nat.le_refl _)
  have HB10w := Lib.hid (HB3.out.trans (HQ10.out.mono HB3.out.size))
  clear HX4 HX7 HQ4 HQ5 HR5 HQ6 HR6 HQ7 HB8 HB9 HB10 HQ10 HD3 HL5 HL6 HL9 HC2 HC5 HC8 HB1 HB2 HB3
  go_wp2_with fail
  rw [← HX10.out.eq]
  go_region_held3 (fun w' => w'.cell? ⟨w3.heap.size, 0, none⟩ = some (.int .i64 0) ∧ w'.cell? ⟨w3.heap.size, 6, none⟩ = some (.bool true) ∧ w'.cell? ⟨w3.heap.size, 2, none⟩ = some (.int .i64 1) ∧ w'.cell? ⟨w3.heap.size, 3, none⟩ = some (.int .i64 5) ∧ w'.cell? ⟨w3.heap.size, 4, none⟩ = some (.string ⟨#[]⟩) ∧ w'.cell? ⟨w3.heap.size, 5, none⟩ = some (.slice a3 0 c3) ∧ w'.cell? ⟨w3.heap.size, 7, none⟩ = some (.int .i64 2) ∧ w'.cell? ⟨w6.heap.size, 0, none⟩ = some (.int .i64 90) ∧ w'.cell? ⟨w9.heap.size, 0, none⟩ = some (.int .i64 93))
    (first | with_reducible exact HFS.out | with_reducible exact HF11.out | with_reducible exact HF12.out | with_reducible exact HF13.out | exact HFS.out)
    (first
      | (go_at_call 16; (with_reducible refine (lnum_any 5 _).mono ?_); rintro e w11 ⟨rfl, hb11⟩; have hb11' := (below_drewN (Below.refl w10.heap.size w10) 1).trans hb11; have HB11 := Lib.hid hb11'; have HF11 := Lib.hid (FxS.bel HFS.out hb11' HL10.out); clear hb11 hb11')
      | (go_at_call 15; (with_reducible refine (same_any (.mk 1 5 ⟨#[]⟩ []) (.mk 1 5 ⟨#[]⟩ []) _ _ w11 HSH.out HSH.out ((HD10.out.bel HB11.out (Nat.le_refl _)).mono fun _ _ _ => trivial) (.nil _ _ _)).mono ?_); rintro e w12 ⟨rfl, hb12⟩; have hb12' := HB11.out.trans (hb12.mono HB11.out.size); have HB12 := Lib.hid hb12'; have HF12 := Lib.hid (FxS.bel HFS.out hb12' HL10.out); clear hb12 hb12')
      | (go_at_call 9; (with_reducible refine (chk_nil w12).mono ?_); rintro e w13 ⟨rfl, hb13⟩; have hb13' := HB12.out.trans (hb13.mono HB12.out.size); have HB13 := Lib.hid hb13'; have HF13 := Lib.hid (FxS.bel HFS.out hb13' HL10.out); clear hb13 hb13'))
  go_wp2_with fail
  go_ret
  exact ⟨rfl, HB10w.out.trans (HB13.out.mono HB10w.out.size)⟩
end Vm
end Go.Proofs.Ytalfnaielhbocaa
namespace Go.Proofs.Ytalfnaielhbocaa
open Go.RowKit
set_option linter.unusedVariables false
set_option linter.unusedSimpArgs false
set_option maxRecDepth 100000
mutual
theorem Dt.same_self : ∀ d : Dt, Dt.same d d = true
  | .mk k i t l => by
    rw [Dt.same, Dt.sames_self l]
    simp
theorem Dt.sames_self : ∀ l : List Dt, Dt.sames l l = true
  | [] => by rw [Dt.sames]
  | x :: l => by
    rw [Dt.sames, Dt.same_self x, Dt.sames_self l]
    rfl
end
namespace Vm
end Vm
end Go.Proofs.Ytalfnaielhbocaa
namespace Go.Proofs.Ytalfnaielhbocaa
open Go.RowKit
set_option linter.unusedVariables false
set_option linter.unusedSimpArgs false
namespace Vm
theorem goN_succ (c : Code) (n : Nat) (s : St) : go c (n + 1) s = if s.e = 0 ∧ s.done = false then go c n (step c s) else (s, n + 1) := rfl
end Vm
end Go.Proofs.Ytalfnaielhbocaa
namespace Go.Proofs.Ytalfnaielhbocaa
open Go.RowKit
set_option linter.unusedVariables false
set_option linter.unusedSimpArgs false
set_option maxRecDepth 100000
namespace Vm
structure LawIn (W : World) (al : Option Addr) (cl : Nat) (c : Code) : Prop where
  at' : CodeAt W (.slice al c.length cl) c
  len : c.length ≤ 1000000000000000
  fit : ∀ p ∈ c, PrcFit p
theorem LawIn.run {W w : World} {al : Option Addr} {cl : Nat} {c : Code} (h : LawIn W al cl c) (hb : Below W.heap.size W w) (l : List UInt8) (n : Int) (hn : n ≤ 800000 ∨ 1000000 < n) :
    Calls Try.prog 11 #[.agg #[.slice al c.length cl], .string ⟨l.toArray⟩, .int .i64 n] w (OutPost (run c l n) w) :=
  Run_any l n al cl hn (h.at'.bel hb) h.len h.fit
structure OutB (w : World) (g : Nat) (o : Out) (d : Dt) (lv : Value) : Prop where
  blk : w.heap[g]? = some (.cells (outCells o.e o.out d lv o.shown.isSome o.steps) 33 (0, 0))
  dt : DtAt w (fun _ => True) (.agg #[.int .i64 d.kind, .int .i64 d.int, .string d.text, lv]) d
theorem OutB.bel {w w' : World} {g : Nat} {o : Out} {d : Dt} {lv : Value} (h : OutB w g o d lv) (hb : Below w.heap.size w w') : OutB w' g o d lv :=
  ⟨(hb.block g (Array.getElem?_eq_some_iff.1 h.blk).1).trans h.blk, h.dt.bel hb (Nat.le_refl _)⟩
theorem OutB.lt {w : World} {g : Nat} {o : Out} {d : Dt} {lv : Value} (h : OutB w g o d lv) : g < w.heap.size := (Array.getElem?_eq_some_iff.1 h.blk).1
theorem OutB.c {w : World} {g : Nat} {o : Out} {d : Dt} {lv : Value} (h : OutB w g o d lv) : Res8 w g (.int .i64 o.e) (.string o.out) (.int .i64 d.kind) (.int .i64 d.int) (.string d.text) lv (.bool o.shown.isSome) (.int .i64 o.steps) := Res8.of h.blk
end Vm
end Go.Proofs.Ytalfnaielhbocaa
namespace Go.Proofs.Ytalfnaielhbocaa
open Go.RowKit
set_option linter.unusedVariables false
set_option linter.unusedSimpArgs false
namespace Vm
structure Turn where
  nm : Nat → Int → Int
  row : Nat → List Hp.V → List Hp.V
def Turn.fr (t : Turn) (f : Fr) : Fr := ⟨f.proc, t.row f.proc f.regs, f.cl, (t.nm f.proc f.to).toNat, f.next⟩
def Turn.cl (t : Turn) (k : Cl) : Cl := { k with frs := k.frs.map t.fr }
def Turn.st (t : Turn) (s : St) : St := { s with regs := t.row s.proc s.regs, frs := s.frs.map t.fr, cls := s.cls.map t.cl }
def Turn.ins (t : Turn) (p : Nat) (x : Ins) : Ins := ⟨x.op, if x.op = sTie then x.to else t.nm p x.to, x.args.map (t.nm p), x.const, x.num⟩
def Turn.fin (t : Turn) (p : Nat) (x : Fin) : Fin := ⟨x.kind, if x.kind = 0 then x.reg else t.nm p x.reg, x.args.map (t.nm p), if x.kind = 4 ∨ x.kind = 6 then t.nm p x.to else x.to, x.next, x.els⟩
def Turn.blk (t : Turn) (p : Nat) (b : Blk) : Blk := ⟨b.ins.map (t.ins p), t.fin p b.fin⟩
structure Turn.Fits (t : Turn) (c d : Code) : Prop where
  prc : ∀ (i : Nat) (p : Prc), c[i]? = some p → ∃ q, d[i]? = some q ∧ q.params = p.params ∧ (∀ (j : Nat) (b : Blk), p.blocks[j]? = some b → q.blocks[j]? = some (t.blk i b)) ∧
    (∀ a : List Hp.V, (a.length : Int) = p.params → t.row i (a ++ List.replicate (p.regs.toNat - a.length) unset) = a ++ List.replicate (q.regs.toNat - a.length) unset)
  pos : ∀ (i : Nat) (p : Prc) (r : Int), c[i]? = some p → 0 ≤ r → r < p.regs → 0 ≤ t.nm i r
  get : ∀ (i : Nat) (p : Prc) (l : List Hp.V) (r : Int), c[i]? = some p → (l.length : Int) = p.regs → 0 ≤ r → r < p.regs → (t.row i l).getD (t.nm i r).toNat Hp.none = l.getD r.toNat Hp.none
  set : ∀ (i : Nat) (p : Prc) (l : List Hp.V) (r : Int) (v : Hp.V), c[i]? = some p → (l.length : Int) = p.regs → 0 ≤ r → r < p.regs → (t.row i l).set (t.nm i r).toNat v = t.row i (l.set r.toNat v)
section
variable {t : Turn} {c d : Code}
end
end Vm
end Go.Proofs.Ytalfnaielhbocaa
namespace Go.Proofs.Ytalfnaielhbocaa
open Go.RowKit
set_option linter.unusedVariables false
set_option linter.unusedSimpArgs false
namespace Vm
section
variable {t : Turn} {c d : Code}
theorem chk_zero {c : Code} : chk c = 0 ↔ manyP c 0 ≠ none ∧ c.length ≤ 300 ∧ (∃ p, c[0]? = some p ∧ p.params = 0 ∧ p.holds = 0) ∧ ∀ p ∈ c, prcB c p = true := by
  constructor
  · intro h
    cases c with
    | nil => cases h
    | cons p l =>
      unfold chk at h
      split at h
      · cases h
      · rename_i h1
        dsimp only at h
        split at h
        · cases h
        · rename_i h2
          split at h
          · rename_i h3
            refine ⟨fun e => h1 (.inl e), by omega, ⟨p, rfl, ?_⟩, List.all_eq_true.1 h3⟩
            simpa using h2
          · cases h
  · rintro ⟨h1, h2, ⟨p, h3, h4, h5⟩, h6⟩
    unfold chk
    rw [if_neg (by rintro (e | e); exact h1 e; omega)]
    cases c with
    | nil => cases h3
    | cons q l =>
      simp at h3
      subst h3
      rw [if_neg (by simp [h4, h5]), if_pos (by simpa using h6)]
end
section
variable {c : Code} {p : Prc} {k : Nat} {a b : Int}
end
section
variable {c : Code} {p : Prc} {k : Nat}
end
end Vm
end Go.Proofs.Ytalfnaielhbocaa
namespace Go.Proofs.Ytalfnaielhbocaa
open Go.RowKit
set_option linter.unusedVariables false
set_option linter.unusedSimpArgs false
set_option maxRecDepth 100000
namespace Vm
def sAdd : ByteArray := ⟨#[43]⟩
def sEq : ByteArray := ⟨#[61]⟩
def dN (n : Int) : Dt := .mk 1 n ⟨#[]⟩ []
def dZ : Dt := .mk 0 0 ⟨#[]⟩ []
def vN (n : Int) : Hp.V := ⟨1, n, ⟨#[]⟩⟩
theorem const_num {n : Int} (h : isN n = true) : constF (dN n) = (vN n, true) := by
  have hc : (dN n).chkE = 0 := by
    unfold Dt.chkE dN
    rw [Dt.chk]
    have : Dt.formB 1 n ⟨#[]⟩ [] = true := by
      unfold Dt.formB
      rw [if_neg (by decide), if_pos rfl, h]
      simp
    rw [if_neg (by decide), if_neg (by decide), if_pos this]
    rw [Dt.chks]
  unfold constF
  rw [if_neg (fun e => e hc)]
  unfold dN
  simp [Dt.kind, Dt.int, vN]
theorem doI_const (s : St) (r : Int) (d : Dt) (n : Int) (a : List Int) : doI s ⟨sConst, r, a, d, n⟩ = s.setR r (constF d).1 := by
  unfold doI
  rw [if_pos rfl]
theorem may_num {T : Nat} {n : Int} (h : isN n = true) : Hp.may T (vN n) = true := by
  unfold Hp.may vN
  simp [h]
theorem okN (T : List Hp.Th) (a b : Int) : Hp.allOk T [vN a, vN b] [105, 105] = true := by
  simp [Hp.allOk, Hp.okAt, Hp.kindOf, Hp.isL, vN]
theorem do_eq {T : List Hp.Th} {a b : Int} (ha : isN a = true) (hb : isN b = true) : Hp.doF T sEq [vN a, vN b] = (Hp.truth (decide (a = b)), 0, T) := by
  rw [Hp.doF_act (i := 6) (x := ⟨⟨#[61]⟩, [105, 105], ⟨#[105, 105]⟩, -1, 0⟩) (by decide +kernel) rfl rfl (by simp [may_num ha, may_num hb]) (okN T a b)]
  show Hp.sayF T (Hp.truth (decide (vN a = vN b))) = _
  unfold Hp.sayF
  have : decide (vN a = vN b) = decide (a = b) := by
    rw [decide_eq_decide]
    unfold vN
    simp
  rw [this]
theorem do_add {T : List Hp.Th} {a b : Int} (ha : isN a = true) (hb : isN b = true) (hs : isN (a + b) = true) : Hp.doF T sAdd [vN a, vN b] = (vN (a + b), 0, T) := by
  rw [Hp.doF_act (i := 0) (x := ⟨⟨#[43]⟩, [105, 105], ⟨#[105, 105]⟩, -1, 0⟩) (by decide +kernel) rfl rfl (by simp [may_num ha, may_num hb]) (okN T a b)]
  show ((Hp.reckF 0 a b).1, (Hp.reckF 0 a b).2, T) = _
  have : rk 0 (8 * a) (8 * b) = (8 * (a + b), 0) := by
    unfold rk
    rw [if_neg (by decide), if_neg (by omega), if_pos rfl]
    have e1 : 8 * a / 8 = a := by omega
    have e2 : 8 * b / 8 = b := by omega
    rw [e1, e2, if_pos hs]
  unfold Hp.reckF
  rw [this]
  have e3 : 8 * (a + b) / 8 = a + b := by omega
  simp only [e3]
  rfl
theorem prim_do (s : St) (p : ByteArray) (a : List Hp.V) (h1 : p ≠ sRead) (h2 : p ≠ sWrite) (h3 : p ≠ sError) (h4 : p ≠ sWinders) (h5 : p ≠ sWind) {v : Hp.V} (h : Hp.doF s.T p a = (v, 0, s.T)) (he : s.e = 0) : prim s p a = (v, s) := by
  unfold prim
  rw [if_neg h1, if_neg h2, if_neg h3, if_neg h4, if_neg h5, h]
  obtain ⟨T, cls, input, out, w, e, proc, regs, cl, block, pos, frs, done, told⟩ := s
  dsimp only at he ⊢
  rw [he]
theorem doI_do (s : St) (p : ByteArray) (r : Int) (l : List Int) (d : Dt) (n : Int) (h1 : p ≠ sRead) (h2 : p ≠ sWrite) (h3 : p ≠ sError) (h4 : p ≠ sWinders) (h5 : p ≠ sWind) (h6 : p ≠ sConst) (h7 : p ≠ sMove) (h8 : p ≠ sHeld) (h9 : p ≠ sClosure) (h10 : p ≠ sTie) {v : Hp.V} (h : Hp.doF s.T p (vals s.regs l) = (v, 0, s.T)) (he : s.e = 0) : doI s ⟨p, r, l, d, n⟩ = s.setR r v := by
  unfold doI
  dsimp only
  rw [if_neg h6, if_neg h7, if_neg h8, if_neg h9, if_neg h10, prim_do s p _ h1 h2 h3 h4 h5 h he, if_pos he]
theorem go_one {c : Code} {s t : St} (N : Nat) (he : s.e = 0) (hd : s.done = false) (h : step c s = t) : go c (N + 1) s = go c N t := by
  rw [goN_succ, if_pos ⟨he, hd⟩, h]
def iC (r n : Int) : Ins := ⟨sConst, r, [], dN n, 0⟩
def iEq : Ins := ⟨sEq, 2, [0, 1], dZ, 0⟩
def iAdd : Ins := ⟨sAdd, 0, [0, 2], dZ, 0⟩
def cJ (n : Int) : Code := [⟨0, 0, 3, [⟨[iC 0 0], ⟨0, 0, [], 0, 1, 0⟩⟩, ⟨[iC 1 n, iEq], ⟨1, 2, [], 0, 2, 3⟩⟩, ⟨[], ⟨2, 0, [], 0, 0, 0⟩⟩, ⟨[iC 2 1, iAdd], ⟨0, 0, [], 0, 1, 0⟩⟩]⟩]
def cT (n : Int) : Code := [⟨0, 0, 2, [⟨[⟨sClosure, 1, [1], dZ, 1⟩, ⟨sTie, 0, [1, 1], dZ, 0⟩, iC 0 0], ⟨3, 1, [0], 0, 0, 0⟩⟩]⟩,
  ⟨1, 1, 4, [⟨[iC 1 n, iEq], ⟨1, 2, [], 0, 1, 2⟩⟩, ⟨[], ⟨2, 0, [], 0, 0, 0⟩⟩, ⟨[iC 2 1, iAdd, ⟨sHeld, 3, [], dZ, 0⟩], ⟨3, 3, [0], 0, 0, 0⟩⟩]⟩]
def sJ (T : List Hp.Th) (C : List Cl) (pr cl : Nat) (regs : List Hp.V) (b p : Nat) : St := ⟨T, C, [], [], ⟨4, 0, ⟨#[]⟩⟩, 0, pr, regs, cl, b, p, [], false, Hp.none⟩
theorem const_step {c : Code} {T : List Hp.Th} {C : List Cl} {pr cl b p : Nat} {regs : List Hp.V} {P : Prc} {B : Blk} {r n : Int} (hP : c[pr]? = some P) (hB : P.blocks[b]? = some B) (hI : B.ins[p]? = some (iC r n)) (hn : isN n = true) :
    step c (sJ T C pr cl regs b p) = sJ T C pr cl (regs.set r.toNat (vN n)) b (p + 1) := by
  unfold step blkAt sJ
  dsimp only
  rw [hP]
  dsimp only
  rw [hB]
  dsimp only
  rw [hI]
  dsimp only
  unfold iC
  rw [doI_const, const_num hn]
  rfl
theorem do_step {c : Code} {T : List Hp.Th} {C : List Cl} {pr cl b p : Nat} {regs : List Hp.V} {P : Prc} {B : Blk} {op : ByteArray} {r : Int} {l : List Int} {v : Hp.V} (hP : c[pr]? = some P) (hB : P.blocks[b]? = some B) (hI : B.ins[p]? = some ⟨op, r, l, dZ, 0⟩) (ho : op = sEq ∨ op = sAdd) (hv : Hp.doF T op (vals regs l) = (v, 0, T)) :
    step c (sJ T C pr cl regs b p) = sJ T C pr cl (regs.set r.toNat v) b (p + 1) := by
  unfold step blkAt sJ
  dsimp only
  rw [hP]
  dsimp only
  rw [hB]
  dsimp only
  rw [hI]
  dsimp only
  rcases ho with rfl | rfl
  · rw [doI_do _ sEq r l dZ 0 (by decide) (by decide) (by decide) (by decide) (by decide) (by decide) (by decide) (by decide) (by decide) (by decide) (v := v) hv rfl]
    rfl
  · rw [doI_do _ sAdd r l dZ 0 (by decide) (by decide) (by decide) (by decide) (by decide) (by decide) (by decide) (by decide) (by decide) (by decide) (v := v) hv rfl]
    rfl
theorem end_step {c : Code} {T : List Hp.Th} {C : List Cl} {pr cl b p : Nat} {regs : List Hp.V} {P : Prc} {B : Blk} (hP : c[pr]? = some P) (hB : P.blocks[b]? = some B) (hI : B.ins[p]? = none) : step c (sJ T C pr cl regs b p) = endB c (sJ T C pr cl regs b p) B.fin := by
  unfold step blkAt sJ
  dsimp only
  rw [hP]
  dsimp only
  rw [hB]
  dsimp only
  rw [hI]
def TJ : List Hp.Th := [⟨4, []⟩]
def CJ : List Cl := [⟨0, 0, [], false, []⟩]
def TT : List Hp.Th := [⟨4, []⟩, ⟨4, []⟩]
def CT : List Cl := [⟨0, 0, [], false, []⟩, ⟨1, 1, [⟨8, 1, ⟨#[]⟩⟩], false, []⟩]
theorem isN_small {n : Int} (h : 0 ≤ n) (h2 : n ≤ 1000000) : isN n = true := by
  unfold isN
  rw [decide_eq_true_eq]
  omega
theorem roundJ (n k : Nat) (hn : n ≤ 3000) (hk : k < n) (x y : Hp.V) (N : Nat) : go (cJ n) (N + 6) (sJ TJ CJ 0 0 [vN k, x, y] 1 0) = go (cJ n) N (sJ TJ CJ 0 0 [vN ((k + 1 : Nat) : Int), vN n, vN 1] 1 0) := by
  have hN := isN_small (n := n) (by omega) (by omega)
  have hK := isN_small (n := k) (by omega) (by omega)
  have h1 := isN_small (n := 1) (by omega) (by omega)
  have hK1 := isN_small (n := (k : Int) + 1) (by omega) (by omega)
  have hne : decide ((k : Int) = n) = false := decide_eq_false (by omega)
  rw [go_one (t := sJ TJ CJ 0 0 [vN k, vN n, y] 1 1) _ rfl rfl (const_step (r := 1) rfl rfl rfl hN),
    go_one (t := sJ TJ CJ 0 0 [vN k, vN n, Hp.truth false] 1 2) _ rfl rfl (do_step (r := 2) (l := [0, 1]) rfl rfl rfl (.inl rfl) (by rw [← hne]; exact do_eq hK hN)),
    go_one (t := sJ TJ CJ 0 0 [vN k, vN n, Hp.truth false] 3 0) _ rfl rfl ((end_step rfl rfl rfl).trans (by rfl)),
    go_one (t := sJ TJ CJ 0 0 [vN k, vN n, vN 1] 3 1) _ rfl rfl (const_step (r := 2) rfl rfl rfl h1),
    go_one (t := sJ TJ CJ 0 0 [vN ((k : Int) + 1), vN n, vN 1] 3 2) _ rfl rfl (do_step (r := 0) (l := [0, 2]) rfl rfl rfl (.inr rfl) (do_add hK h1 hK1)),
    go_one (t := sJ TJ CJ 0 0 [vN ((k : Int) + 1), vN n, vN 1] 1 0) _ rfl rfl ((end_step rfl rfl rfl).trans (by rfl))]
  rfl
def doneJ (T : List Hp.Th) (C : List Cl) (pr cl : Nat) (regs : List Hp.V) (b : Nat) (v : Hp.V) : St := ⟨T, C, [], [], ⟨4, 0, ⟨#[]⟩⟩, 0, pr, regs, cl, b, 0, [], true, v⟩
theorem lastJ (n : Nat) (hn : n ≤ 3000) (x y : Hp.V) (N : Nat) : go (cJ n) (N + 4) (sJ TJ CJ 0 0 [vN n, x, y] 1 0) = (doneJ TJ CJ 0 0 [vN n, vN n, Hp.truth true] 2 (vN n), N) := by
  have hN := isN_small (n := n) (by omega) (by omega)
  have hne : decide ((n : Int) = n) = true := decide_eq_true rfl
  rw [go_one (t := sJ TJ CJ 0 0 [vN n, vN n, y] 1 1) _ rfl rfl (const_step (r := 1) rfl rfl rfl hN),
    go_one (t := sJ TJ CJ 0 0 [vN n, vN n, Hp.truth true] 1 2) _ rfl rfl (do_step (r := 2) (l := [0, 1]) rfl rfl rfl (.inl rfl) (by rw [← hne]; exact do_eq hN hN)),
    go_one (t := sJ TJ CJ 0 0 [vN n, vN n, Hp.truth true] 2 0) _ rfl rfl ((end_step rfl rfl rfl).trans (by rfl)),
    go_one (t := doneJ TJ CJ 0 0 [vN n, vN n, Hp.truth true] 2 (vN n)) _ rfl rfl ((end_step rfl rfl rfl).trans (by rfl))]
  exact go_stop (.inr rfl)
theorem loopJ (n : Nat) (hn : n ≤ 3000) (N : Nat) : ∀ (j k : Nat) (x y : Hp.V), k + j = n → ∃ T C pr cl regs b, go (cJ n) (N + 4 + 6 * j) (sJ TJ CJ 0 0 [vN k, x, y] 1 0) = (doneJ T C pr cl regs b (vN n), N)
  | 0, k, x, y, h => by
    obtain rfl : k = n := by omega
    exact ⟨_, _, _, _, _, _, lastJ k hn x y N⟩
  | j + 1, k, x, y, h => by
    have e : N + 4 + 6 * (j + 1) = (N + 4 + 6 * j) + 6 := by omega
    rw [e, roundJ n k hn (by omega) x y]
    exact loopJ n hn N j (k + 1) _ _ (by omega)
theorem countJ (n : Nat) (hn : n ≤ 3000) (N : Nat) : ∃ T C pr cl regs b, go (cJ n) (N + 6 + 6 * n) (start (cJ n) []) = (doneJ T C pr cl regs b (vN n), N) := by
  have e0 : start (cJ n) [] = sJ TJ CJ 0 0 [unset, unset, unset] 0 0 := rfl
  have e : N + 6 + 6 * n = (N + 4 + 6 * n) + 1 + 1 := by omega
  rw [e0, e, go_one (t := sJ TJ CJ 0 0 [vN 0, unset, unset] 0 1) _ rfl rfl (const_step (r := 0) rfl rfl rfl (isN_small (by omega) (by omega))),
    go_one (t := sJ TJ CJ 0 0 [vN 0, unset, unset] 1 0) _ rfl rfl ((end_step rfl rfl rfl).trans (by rfl))]
  exact loopJ n hn N n 0 _ _ (by omega)
theorem roundT (n k : Nat) (hn : n ≤ 3000) (hk : k < n) (x y z : Hp.V) (N : Nat) : go (cT n) (N + 7) (sJ TT CT 1 1 [vN k, x, y, z] 0 0) = go (cT n) N (sJ TT CT 1 1 [vN ((k + 1 : Nat) : Int), unset, unset, unset] 0 0) := by
  have hN := isN_small (n := n) (by omega) (by omega)
  have hK := isN_small (n := k) (by omega) (by omega)
  have h1 := isN_small (n := 1) (by omega) (by omega)
  have hK1 := isN_small (n := (k : Int) + 1) (by omega) (by omega)
  have hne : decide ((k : Int) = n) = false := decide_eq_false (by omega)
  rw [go_one (t := sJ TT CT 1 1 [vN k, vN n, y, z] 0 1) _ rfl rfl (const_step (r := 1) rfl rfl rfl hN),
    go_one (t := sJ TT CT 1 1 [vN k, vN n, Hp.truth false, z] 0 2) _ rfl rfl (do_step (r := 2) (l := [0, 1]) rfl rfl rfl (.inl rfl) (by rw [← hne]; exact do_eq hK hN)),
    go_one (t := sJ TT CT 1 1 [vN k, vN n, Hp.truth false, z] 2 0) _ rfl rfl ((end_step rfl rfl rfl).trans (by rfl)),
    go_one (t := sJ TT CT 1 1 [vN k, vN n, vN 1, z] 2 1) _ rfl rfl (const_step (r := 2) rfl rfl rfl h1),
    go_one (t := sJ TT CT 1 1 [vN ((k : Int) + 1), vN n, vN 1, z] 2 2) _ rfl rfl (do_step (r := 0) (l := [0, 2]) rfl rfl rfl (.inr rfl) (do_add hK h1 hK1)),
    go_one (t := sJ TT CT 1 1 [vN ((k : Int) + 1), vN n, vN 1, ⟨8, 1, ⟨#[]⟩⟩] 2 3) _ rfl rfl (by rfl),
    go_one (t := sJ TT CT 1 1 [vN ((k : Int) + 1), unset, unset, unset] 0 0) _ rfl rfl ((end_step rfl rfl rfl).trans (by rfl))]
  rfl
theorem lastT (n : Nat) (hn : n ≤ 3000) (x y z : Hp.V) (N : Nat) : go (cT n) (N + 4) (sJ TT CT 1 1 [vN n, x, y, z] 0 0) = (doneJ TT CT 1 1 [vN n, vN n, Hp.truth true, z] 1 (vN n), N) := by
  have hN := isN_small (n := n) (by omega) (by omega)
  have hne : decide ((n : Int) = n) = true := decide_eq_true rfl
  rw [go_one (t := sJ TT CT 1 1 [vN n, vN n, y, z] 0 1) _ rfl rfl (const_step (r := 1) rfl rfl rfl hN),
    go_one (t := sJ TT CT 1 1 [vN n, vN n, Hp.truth true, z] 0 2) _ rfl rfl (do_step (r := 2) (l := [0, 1]) rfl rfl rfl (.inl rfl) (by rw [← hne]; exact do_eq hN hN)),
    go_one (t := sJ TT CT 1 1 [vN n, vN n, Hp.truth true, z] 1 0) _ rfl rfl ((end_step rfl rfl rfl).trans (by rfl)),
    go_one (t := doneJ TT CT 1 1 [vN n, vN n, Hp.truth true, z] 1 (vN n)) _ rfl rfl ((end_step rfl rfl rfl).trans (by rfl))]
  exact go_stop (.inr rfl)
theorem loopT (n : Nat) (hn : n ≤ 3000) (N : Nat) : ∀ (j k : Nat) (x y z : Hp.V), k + j = n → ∃ T C pr cl regs b, go (cT n) (N + 4 + 7 * j) (sJ TT CT 1 1 [vN k, x, y, z] 0 0) = (doneJ T C pr cl regs b (vN n), N)
  | 0, k, x, y, z, h => by
    obtain rfl : k = n := by omega
    exact ⟨_, _, _, _, _, _, lastT k hn x y z N⟩
  | j + 1, k, x, y, z, h => by
    have e : N + 4 + 7 * (j + 1) = (N + 4 + 7 * j) + 7 := by omega
    rw [e, roundT n k hn (by omega) x y z]
    exact loopT n hn N j (k + 1) _ _ _ (by omega)
theorem countT (n : Nat) (hn : n ≤ 3000) (N : Nat) : ∃ T C pr cl regs b, go (cT n) (N + 8 + 7 * n) (start (cT n) []) = (doneJ T C pr cl regs b (vN n), N) := by
  have e0 : start (cT n) [] = sJ TJ CJ 0 0 [unset, unset] 0 0 := rfl
  have e : N + 8 + 7 * n = (N + 4 + 7 * n) + 1 + 1 + 1 + 1 := by omega
  rw [e0, e, go_one (t := sJ TT [⟨0, 0, [], false, []⟩, ⟨1, 1, [unset], false, []⟩] 0 0 [unset, ⟨8, 1, ⟨#[]⟩⟩] 0 1) _ rfl rfl (by rfl),
    go_one (t := sJ TT CT 0 0 [unset, ⟨8, 1, ⟨#[]⟩⟩] 0 2) _ rfl rfl (by rfl),
    go_one (t := sJ TT CT 0 0 [vN 0, ⟨8, 1, ⟨#[]⟩⟩] 0 3) _ rfl rfl (const_step (r := 0) rfl rfl rfl (isN_small (by omega) (by omega))),
    go_one (t := sJ TT CT 1 1 [vN 0, unset, unset, unset] 0 0) _ rfl rfl ((end_step rfl rfl rfl).trans (by rfl))]
  exact loopT n hn N n 0 _ _ _ (by omega)
theorem insB_iC {c : Code} {p : Prc} {r n : Int} (hn : isN n = true) (h : regsB p [r] = true) : insB c p (iC r n) = true := by
  unfold insB iC
  dsimp only
  rw [if_pos rfl, const_num hn, h]
  rfl
theorem insB_iEq {c : Code} {p : Prc} (h : regsB p [2] = true) (h2 : regsB p [0, 1] = true) : insB c p iEq = true := by
  unfold insB iEq
  dsimp only
  rw [if_neg (by decide), if_neg (by decide), if_neg (by decide), if_neg (by decide), if_neg (by decide), if_neg (by decide), h, h2]
  rfl
theorem insB_iAdd {c : Code} {p : Prc} (h : regsB p [0] = true) (h2 : regsB p [0, 2] = true) : insB c p iAdd = true := by
  unfold insB iAdd
  dsimp only
  rw [if_neg (by decide), if_neg (by decide), if_neg (by decide), if_neg (by decide), if_neg (by decide), if_neg (by decide), h, h2]
  rfl
theorem chk_cJ {n : Int} (hn : isN n = true) : chk (cJ n) = 0 := by
  refine chk_zero.2 ⟨?_, by show 1 ≤ 300; decide, ⟨_, rfl, rfl, rfl⟩, fun p hp => ?_⟩
  · rw [show manyP (cJ n) 0 = some 9 from rfl]
    simp
  · unfold cJ at hp
    rw [List.mem_singleton] at hp
    subst hp
    have a1 := insB_iC (c := cJ n) (p := ⟨0, 0, 3, [⟨[iC 0 0], ⟨0, 0, [], 0, 1, 0⟩⟩, ⟨[iC 1 n, iEq], ⟨1, 2, [], 0, 2, 3⟩⟩, ⟨[], ⟨2, 0, [], 0, 0, 0⟩⟩, ⟨[iC 2 1, iAdd], ⟨0, 0, [], 0, 1, 0⟩⟩]⟩) (r := 0) (n := 0) (by decide) rfl
    have a2 := insB_iC (c := cJ n) (p := ⟨0, 0, 3, [⟨[iC 0 0], ⟨0, 0, [], 0, 1, 0⟩⟩, ⟨[iC 1 n, iEq], ⟨1, 2, [], 0, 2, 3⟩⟩, ⟨[], ⟨2, 0, [], 0, 0, 0⟩⟩, ⟨[iC 2 1, iAdd], ⟨0, 0, [], 0, 1, 0⟩⟩]⟩) (r := 1) (n := n) hn rfl
    have a3 := insB_iC (c := cJ n) (p := ⟨0, 0, 3, [⟨[iC 0 0], ⟨0, 0, [], 0, 1, 0⟩⟩, ⟨[iC 1 n, iEq], ⟨1, 2, [], 0, 2, 3⟩⟩, ⟨[], ⟨2, 0, [], 0, 0, 0⟩⟩, ⟨[iC 2 1, iAdd], ⟨0, 0, [], 0, 1, 0⟩⟩]⟩) (r := 2) (n := 1) (by decide) rfl
    have a4 := insB_iEq (c := cJ n) (p := ⟨0, 0, 3, [⟨[iC 0 0], ⟨0, 0, [], 0, 1, 0⟩⟩, ⟨[iC 1 n, iEq], ⟨1, 2, [], 0, 2, 3⟩⟩, ⟨[], ⟨2, 0, [], 0, 0, 0⟩⟩, ⟨[iC 2 1, iAdd], ⟨0, 0, [], 0, 1, 0⟩⟩]⟩) rfl rfl
    have a5 := insB_iAdd (c := cJ n) (p := ⟨0, 0, 3, [⟨[iC 0 0], ⟨0, 0, [], 0, 1, 0⟩⟩, ⟨[iC 1 n, iEq], ⟨1, 2, [], 0, 2, 3⟩⟩, ⟨[], ⟨2, 0, [], 0, 0, 0⟩⟩, ⟨[iC 2 1, iAdd], ⟨0, 0, [], 0, 1, 0⟩⟩]⟩) rfl rfl
    unfold prcB blkB
    simp only [List.all_cons, List.all_nil, a1, a2, a3, a4, a5, Bool.and_true, Bool.true_and]
    rfl
theorem chk_cT {n : Int} (hn : isN n = true) : chk (cT n) = 0 := by
  refine chk_zero.2 ⟨?_, by show 2 ≤ 300; decide, ⟨_, rfl, rfl, rfl⟩, fun p hp => ?_⟩
  · rw [show manyP (cT n) 0 = some 12 from rfl]
    simp
  · have hp2 : p = ⟨0, 0, 2, [⟨[⟨sClosure, 1, [1], dZ, 1⟩, ⟨sTie, 0, [1, 1], dZ, 0⟩, iC 0 0], ⟨3, 1, [0], 0, 0, 0⟩⟩]⟩ ∨ p = ⟨1, 1, 4, [⟨[iC 1 n, iEq], ⟨1, 2, [], 0, 1, 2⟩⟩, ⟨[], ⟨2, 0, [], 0, 0, 0⟩⟩, ⟨[iC 2 1, iAdd, ⟨sHeld, 3, [], dZ, 0⟩], ⟨3, 3, [0], 0, 0, 0⟩⟩]⟩ := by
      unfold cT at hp
      simpa using hp
    rcases hp2 with rfl | rfl
    · have a1 := insB_iC (c := cT n) (p := ⟨0, 0, 2, [⟨[⟨sClosure, 1, [1], dZ, 1⟩, ⟨sTie, 0, [1, 1], dZ, 0⟩, iC 0 0], ⟨3, 1, [0], 0, 0, 0⟩⟩]⟩) (r := 0) (n := 0) (by decide) rfl
      unfold prcB blkB
      simp only [List.all_cons, List.all_nil, a1, Bool.and_true, Bool.true_and]
      rfl
    · have a1 := insB_iC (c := cT n) (p := ⟨1, 1, 4, [⟨[iC 1 n, iEq], ⟨1, 2, [], 0, 1, 2⟩⟩, ⟨[], ⟨2, 0, [], 0, 0, 0⟩⟩, ⟨[iC 2 1, iAdd, ⟨sHeld, 3, [], dZ, 0⟩], ⟨3, 3, [0], 0, 0, 0⟩⟩]⟩) (r := 1) (n := n) hn rfl
      have a2 := insB_iC (c := cT n) (p := ⟨1, 1, 4, [⟨[iC 1 n, iEq], ⟨1, 2, [], 0, 1, 2⟩⟩, ⟨[], ⟨2, 0, [], 0, 0, 0⟩⟩, ⟨[iC 2 1, iAdd, ⟨sHeld, 3, [], dZ, 0⟩], ⟨3, 3, [0], 0, 0, 0⟩⟩]⟩) (r := 2) (n := 1) (by decide) rfl
      have a3 := insB_iEq (c := cT n) (p := ⟨1, 1, 4, [⟨[iC 1 n, iEq], ⟨1, 2, [], 0, 1, 2⟩⟩, ⟨[], ⟨2, 0, [], 0, 0, 0⟩⟩, ⟨[iC 2 1, iAdd, ⟨sHeld, 3, [], dZ, 0⟩], ⟨3, 3, [0], 0, 0, 0⟩⟩]⟩) rfl rfl
      have a4 := insB_iAdd (c := cT n) (p := ⟨1, 1, 4, [⟨[iC 1 n, iEq], ⟨1, 2, [], 0, 1, 2⟩⟩, ⟨[], ⟨2, 0, [], 0, 0, 0⟩⟩, ⟨[iC 2 1, iAdd, ⟨sHeld, 3, [], dZ, 0⟩], ⟨3, 3, [0], 0, 0, 0⟩⟩]⟩) rfl rfl
      unfold prcB blkB
      simp only [List.all_cons, List.all_nil, a1, a2, a3, a4, Bool.and_true, Bool.true_and]
      rfl
theorem tell_num (T : List Hp.Th) {n : Int} (h : isN n = true) : Hp.tellT T (vN n) = some (dN n) := by
  have hm : Hp.may T.length (vN n) = true := may_num h
  rw [Hp.tellT, if_pos hm]
  rfl
theorem runJ (n : Nat) (hn : n ≤ 3000) : run (cJ n) [] 100000 = ⟨0, ⟨#[]⟩, some (dN n), 6 + 6 * n⟩ := by
  have hN := isN_small (n := n) (by omega) (by omega)
  obtain ⟨T, C, pr, cl, regs, b, h⟩ := countJ n hn (100000 - 6 - 6 * n)
  have e : 100000 - 6 - 6 * n + 6 + 6 * n = 100000 := by omega
  rw [e] at h
  unfold run
  rw [if_neg (by omega), if_neg (by rw [chk_cJ hN]; decide)]
  have e2 : (100000 : Int).toNat = 100000 := rfl
  rw [e2, h]
  show (⟨0, ⟨#[]⟩, if (0 : Int) = 0 then Hp.tellT T (vN n) else none, (100000 : Int) - ((100000 - 6 - 6 * n : Nat) : Int)⟩ : Out) = _
  rw [if_pos rfl, tell_num T hN]
  have : (100000 : Int) - ((100000 - 6 - 6 * n : Nat) : Int) = 6 + 6 * n := by omega
  rw [this]
theorem runT (n : Nat) (hn : n ≤ 3000) : run (cT n) [] 100000 = ⟨0, ⟨#[]⟩, some (dN n), 8 + 7 * n⟩ := by
  have hN := isN_small (n := n) (by omega) (by omega)
  obtain ⟨T, C, pr, cl, regs, b, h⟩ := countT n hn (100000 - 8 - 7 * n)
  have e : 100000 - 8 - 7 * n + 8 + 7 * n = 100000 := by omega
  rw [e] at h
  unfold run
  rw [if_neg (by omega), if_neg (by rw [chk_cT hN]; decide)]
  have e2 : (100000 : Int).toNat = 100000 := rfl
  rw [e2, h]
  show (⟨0, ⟨#[]⟩, if (0 : Int) = 0 then Hp.tellT T (vN n) else none, (100000 : Int) - ((100000 - 8 - 7 * n : Nat) : Int)⟩ : Out) = _
  rw [if_pos rfl, tell_num T hN]
  have : (100000 : Int) - ((100000 - 8 - 7 * n : Nat) : Int) = 8 + 7 * n := by omega
  rw [this]
end Vm
end Go.Proofs.Ytalfnaielhbocaa
namespace Go.Proofs.Ytalfnaielhbocaa
open Go.RowKit
set_option linter.unusedVariables false
set_option linter.unusedSimpArgs false
set_option maxRecDepth 100000
namespace Vm
theorem rows_of {α : Type} {w : World} {size b cap : Nat} {l : List α} {R : α → Nat → Nat → Prop} (hb : b < w.heap.size) (h : ∀ j x, l[j]? = some x → R x b (0 + j * size)) : Row w (.slice (some ⟨b, 0, none⟩) l.length cap) size l R :=
  ⟨_, cap, rfl, .inr ⟨b, 0, rfl, hb, h⟩⟩
theorem row_two {α : Type} {w : World} {size b cap : Nat} {x y : α} {R : α → Nat → Nat → Prop} (hb : b < w.heap.size) (h0 : R x b 0) (h1 : R y b size) : Row w (.slice (some ⟨b, 0, none⟩) 2 cap) size [x, y] R :=
  rows_of (l := [x, y]) hb fun j z hz => by
    match j with
    | 0 => simp at hz; subst hz; rw [Nat.zero_mul]; exact h0
    | 1 => simp at hz; subst hz; rw [Nat.one_mul, Nat.zero_add]; exact h1
    | j + 2 => simp at hz
theorem row_three {α : Type} {w : World} {size b cap : Nat} {x y z : α} {R : α → Nat → Nat → Prop} (hb : b < w.heap.size) (h0 : R x b 0) (h1 : R y b size) (h2 : R z b (2 * size)) : Row w (.slice (some ⟨b, 0, none⟩) 3 cap) size [x, y, z] R :=
  rows_of (l := [x, y, z]) hb fun j u hz => by
    match j with
    | 0 => simp at hz; subst hz; rw [Nat.zero_mul]; exact h0
    | 1 => simp at hz; subst hz; rw [Nat.one_mul, Nat.zero_add]; exact h1
    | 2 => simp at hz; subst hz; rw [Nat.zero_add]; exact h2
    | j + 3 => simp at hz
theorem row_four {α : Type} {w : World} {size b cap : Nat} {x y z u : α} {R : α → Nat → Nat → Prop} (hb : b < w.heap.size) (h0 : R x b 0) (h1 : R y b size) (h2 : R z b (2 * size)) (h3 : R u b (3 * size)) : Row w (.slice (some ⟨b, 0, none⟩) 4 cap) size [x, y, z, u] R :=
  rows_of (l := [x, y, z, u]) hb fun j v hz => by
    match j with
    | 0 => simp at hz; subst hz; rw [Nat.zero_mul]; exact h0
    | 1 => simp at hz; subst hz; rw [Nat.one_mul, Nat.zero_add]; exact h1
    | 2 => simp at hz; subst hz; rw [Nat.zero_add]; exact h2
    | 3 => simp at hz; subst hz; rw [Nat.zero_add]; exact h3
    | j + 4 => simp at hz
theorem insC_at {w : World} {b o : Nat} {arr : Array Value} {ty : TypeId} {x : Ins} {av lv : Value} (hc : w.heap[b]? = some (.cells arr ty (0, 0))) (e0 : arr[o]? = some (.string x.op)) (e1 : arr[o + 1]? = some (.int .i64 x.to)) (e2 : arr[o + 2]? = some av) (e3 : arr[o + 3]? = some (.int .i64 x.const.kind)) (e4 : arr[o + 4]? = some (.int .i64 x.const.int)) (e5 : arr[o + 5]? = some (.string x.const.text)) (e6 : arr[o + 6]? = some lv) (e7 : arr[o + 7]? = some (.int .i64 x.num))
    (ha : Sl w av (ints x.args)) (hd : DtAt w (fun _ => True) (.agg #[.int .i64 x.const.kind, .int .i64 x.const.int, .string x.const.text, lv]) x.const) : InsC w x b o :=
  ⟨(cell_of_row _ _ o _ _ _ hc).trans e0, (cell_of_row _ _ (o + 1) _ _ _ hc).trans e1, ⟨av, (cell_of_row _ _ (o + 2) _ _ _ hc).trans e2, ha⟩, (cell_of_row _ _ (o + 3) _ _ _ hc).trans e3, (cell_of_row _ _ (o + 4) _ _ _ hc).trans e4, (cell_of_row _ _ (o + 5) _ _ _ hc).trans e5, ⟨lv, (cell_of_row _ _ (o + 6) _ _ _ hc).trans e6, hd⟩, (cell_of_row _ _ (o + 7) _ _ _ hc).trans e7⟩
theorem blkC_at {w : World} {b o : Nat} {arr : Array Value} {ty : TypeId} {x : Blk} {iv av : Value} (hc : w.heap[b]? = some (.cells arr ty (0, 0))) (e0 : arr[o]? = some iv) (e1 : arr[o + 1]? = some (.int .i64 x.fin.kind)) (e2 : arr[o + 2]? = some (.int .i64 x.fin.reg)) (e3 : arr[o + 3]? = some av) (e4 : arr[o + 4]? = some (.int .i64 x.fin.to)) (e5 : arr[o + 5]? = some (.int .i64 x.fin.next)) (e6 : arr[o + 6]? = some (.int .i64 x.fin.els))
    (hi : Row w iv 8 x.ins (InsC w)) (ha : Sl w av (ints x.fin.args)) : BlkC w x b o :=
  ⟨⟨iv, (cell_of_row _ _ o _ _ _ hc).trans e0, hi⟩, (cell_of_row _ _ (o + 1) _ _ _ hc).trans e1, (cell_of_row _ _ (o + 2) _ _ _ hc).trans e2, ⟨av, (cell_of_row _ _ (o + 3) _ _ _ hc).trans e3, ha⟩, (cell_of_row _ _ (o + 4) _ _ _ hc).trans e4, (cell_of_row _ _ (o + 5) _ _ _ hc).trans e5, (cell_of_row _ _ (o + 6) _ _ _ hc).trans e6⟩
theorem prcC_at {w : World} {b o : Nat} {arr : Array Value} {ty : TypeId} {x : Prc} {bv : Value} (hc : w.heap[b]? = some (.cells arr ty (0, 0))) (e0 : arr[o]? = some (.int .i64 x.params)) (e1 : arr[o + 1]? = some (.int .i64 x.holds)) (e2 : arr[o + 2]? = some (.int .i64 x.regs)) (e3 : arr[o + 3]? = some bv)
    (hb : Row w bv 7 x.blocks (BlkC w)) : PrcC w x b o :=
  ⟨(cell_of_row _ _ o _ _ _ hc).trans e0, (cell_of_row _ _ (o + 1) _ _ _ hc).trans e1, (cell_of_row _ _ (o + 2) _ _ _ hc).trans e2, bv, (cell_of_row _ _ (o + 3) _ _ _ hc).trans e3, hb⟩
theorem Row.ins {w w' : World} {v : Value} {l : List Ins} (h : Row w v 8 l (InsC w)) (hb : Below w.heap.size w w') : Row w' v 8 l (InsC w') := h.mono hb.size fun _ _ _ _ hl h => h.bel hb hl
theorem Row.blk {w w' : World} {v : Value} {l : List Blk} (h : Row w v 7 l (BlkC w)) (hb : Below w.heap.size w w') : Row w' v 7 l (BlkC w') := h.mono hb.size fun _ _ _ _ hl h => h.bel hb hl
theorem dN_fit (n : Int) : Dt.Fit (dN n) := fit_leaf _ _ _ (by decide)
theorem dZ_fit : Dt.Fit dZ := fit_leaf _ _ _ (by decide)
theorem cJ_fit (n : Int) : ∀ p ∈ cJ n, PrcFit p := by
  intro p hp
  unfold cJ at hp
  rw [List.mem_singleton] at hp
  subst hp
  refine ⟨by simp, fun b hb => ?_⟩
  simp only [List.mem_cons, List.not_mem_nil, or_false] at hb
  rcases hb with rfl | rfl | rfl | rfl
  · refine ⟨by simp, by simp, fun x hx => ?_⟩
    rw [List.mem_singleton] at hx
    subst hx
    exact ⟨by simp [iC], dN_fit _⟩
  · refine ⟨by simp, by simp, fun x hx => ?_⟩
    simp only [List.mem_cons, List.not_mem_nil, or_false] at hx
    rcases hx with rfl | rfl <;> exact ⟨by simp [iC, iEq], by first | exact dN_fit _ | exact dZ_fit⟩
  · exact ⟨by simp, by simp, fun x hx => by simp at hx⟩
  · refine ⟨by simp, by simp, fun x hx => ?_⟩
    simp only [List.mem_cons, List.not_mem_nil, or_false] at hx
    rcases hx with rfl | rfl <;> exact ⟨by simp [iC, iAdd], by first | exact dN_fit _ | exact dZ_fit⟩
theorem cT_fit (n : Int) : ∀ p ∈ cT n, PrcFit p := by
  intro p hp
  unfold cT at hp
  simp only [List.mem_cons, List.not_mem_nil, or_false] at hp
  rcases hp with rfl | rfl
  · refine ⟨by simp, fun b hb => ?_⟩
    rw [List.mem_singleton] at hb
    subst hb
    refine ⟨by simp, by simp, fun x hx => ?_⟩
    simp only [List.mem_cons, List.not_mem_nil, or_false] at hx
    rcases hx with rfl | rfl | rfl <;> exact ⟨by simp [iC], by first | exact dN_fit _ | exact dZ_fit⟩
  · refine ⟨by simp, fun b hb => ?_⟩
    simp only [List.mem_cons, List.not_mem_nil, or_false] at hb
    rcases hb with rfl | rfl | rfl
    · refine ⟨by simp, by simp, fun x hx => ?_⟩
      simp only [List.mem_cons, List.not_mem_nil, or_false] at hx
      rcases hx with rfl | rfl <;> exact ⟨by simp [iC, iEq], by first | exact dN_fit _ | exact dZ_fit⟩
    · exact ⟨by simp, by simp, fun x hx => by simp at hx⟩
    · refine ⟨by simp, by simp, fun x hx => ?_⟩
      simp only [List.mem_cons, List.not_mem_nil, or_false] at hx
      rcases hx with rfl | rfl | rfl <;> exact ⟨by simp [iC, iAdd], by first | exact dN_fit _ | exact dZ_fit⟩
theorem sl_arr {w : World} {b : Nat} {arr : Array Value} {ty : TypeId} {l : List Value} (hc : w.heap[b]? = some (.cells arr ty (0, 0))) (h : arr.toList = l) : Sl w (.slice (some ⟨b, 0, none⟩) l.length l.length) l := by
  exact ⟨_, _, rfl, .inr ⟨_, rfl, new_cells _ (by rw [hc, ← h])⟩⟩
theorem dt_eight {w : World} {S : Nat → Prop} {v : Value} {d : Dt} {g : Nat} (h : DtAt w S v d) (hS : ∀ b, S b → b ≠ g) (b0 b1 b2 b3 b4 b5 b6 b7 : Value) : DtAt ((((((((w.setCell ⟨g, 0, none⟩ b0).setCell ⟨g, 1, none⟩ b1).setCell ⟨g, 2, none⟩ b2).setCell ⟨g, 3, none⟩ b3).setCell ⟨g, 4, none⟩ b4).setCell ⟨g, 5, none⟩ b5).setCell ⟨g, 6, none⟩ b6).setCell ⟨g, 7, none⟩ b7) S v d := by
  refine h.same (fun b h1 _ => h1) (by simp [World.setCell]) fun b h1 _ => ?_
  have e1 := hS b h1
  rw [heap_setCell_other _ _ _ _ e1, heap_setCell_other _ _ _ _ e1, heap_setCell_other _ _ _ _ e1, heap_setCell_other _ _ _ _ e1, heap_setCell_other _ _ _ _ e1, heap_setCell_other _ _ _ _ e1, heap_setCell_other _ _ _ _ e1, heap_setCell_other _ _ _ _ e1]
theorem run_J {n : Int} (b : Nat) (w : World) (h : CodeAt w (.slice (some ⟨b, 0, none⟩) 1 1) (cJ n)) : Calls Try.prog 11 #[.agg #[.slice (some ⟨b, 0, none⟩) 1 1], .string ⟨#[]⟩, .int .i64 100000] w (OutPost (run (cJ n) [] 100000) w) := by
  have e : (cJ n).length = 1 := rfl
  have := Run_any [] 100000 (some ⟨b, 0, none⟩) 1 (.inl (by decide)) (by rw [e]; exact h) (by rw [e]; decide) (cJ_fit n)
  rw [e] at this
  exact this
theorem run_T {n : Int} (b : Nat) (w : World) (h : CodeAt w (.slice (some ⟨b, 0, none⟩) 2 2) (cT n)) : Calls Try.prog 11 #[.agg #[.slice (some ⟨b, 0, none⟩) 2 2], .string ⟨#[]⟩, .int .i64 100000] w (OutPost (run (cT n) [] 100000) w) := by
  have e : (cT n).length = 2 := rfl
  have := Run_any [] 100000 (some ⟨b, 0, none⟩) 2 (.inl (by decide)) (by rw [e]; exact h) (by rw [e]; decide) (cT_fit n)
  rw [e] at this
  exact this
set_option maxHeartbeats 16000000 in
theorem counted_jumps (n : Nat) (how : Int) (hn : n ≤ 3000) (hh : how.tmod 2 = 0) (w : World) : Calls Try.prog 14 #[.int .i64 n, .int .i64 how] w (OutPost (run (cJ n) [] 100000) w) := by
  have g1 : (how.tmod 2 == 0) = true := by rw [hh]; rfl
  obtain ⟨w0, B0⟩ := boxed w #[.int .i64 0, .string ⟨#[]⟩, .int .i64 0, .int .i64 0, .string ⟨#[]⟩, .slice none 0 0, .bool false, .int .i64 0] 33
  have HX0 := Lib.hid B0
  clear B0 hh
  go_enter Try.func14, Try.ntmps14
  go_wp2_with fail
  rw [← HX0.out.eq]
  with_reducible refine (lnum_any 1 _).mono ?_
  rintro e w1 ⟨rfl, hb1⟩
  have HB1 := Lib.hid hb1
  clear hb1
  -- up
  obtain ⟨wa, Ba⟩ := boxed w1 #[.int .i64 0, .int .i64 2] 3
  obtain ⟨wb, Bb⟩ := boxed wa #[.string ⟨#[99, 111, 110, 115, 116]⟩, .int .i64 2, .slice none 0 0, .int .i64 1, .int .i64 1, .string ⟨#[]⟩, .slice none 0 0, .int .i64 0, .string ⟨#[43]⟩, .int .i64 0, .slice (some ⟨w1.heap.size, 0, none⟩) 2 2, .int .i64 0, .int .i64 0, .string ⟨#[]⟩, .slice none 0 0, .int .i64 0] 55
  have HXa := Lib.hid Ba
  have HXb := Lib.hid Bb
  have hsa := Ba.size
  have hsb := Bb.size
  have hab := Ba.below.trans (Bb.below.mono Ba.below.size)
  have HUP : Hid (Row wb (.slice (some ⟨w1.heap.size + 1, 0, none⟩) 2 2) 8 [iC 2 1, iAdd] (InsC wb)) := by
    have hq := Bb.blk
    rw [hsa] at hq
    exact row_two (by omega) (insC_at hq rfl rfl rfl rfl rfl rfl rfl rfl (sl_nil _) (.nil _ _ _)) (insC_at hq rfl rfl rfl rfl rfl rfl rfl rfl (Sl.below (sl_arr (l := ints [0, 2]) Ba.blk rfl) Bb.below (Nat.le_refl _)) (.nil _ _ _))
  have HBb := Lib.hid (HB1.out.trans (hab.mono HB1.out.size))
  clear Ba Bb hab
  go_wp2_with fail
  rw [← HXa.out.eq, ← HXb.out.eq]
  with_reducible refine (lnum_any n wb).mono ?_
  rintro e w2 ⟨rfl, hb2⟩
  have HUP2 : Hid (Row w2 (.slice (some ⟨w1.heap.size + 1, 0, none⟩) 2 2) 8 [iC 2 1, iAdd] (InsC w2)) := HUP.out.mono hb2.size fun _ _ _ _ hl h => h.bel hb2 hl
  have HB2 := Lib.hid (HBb.out.trans (hb2.mono HBb.out.size))
  clear hb2
  -- test
  obtain ⟨wc, Bc⟩ := boxed w2 #[.int .i64 0, .int .i64 1] 3
  obtain ⟨wd, Bd⟩ := boxed wc #[.string ⟨#[99, 111, 110, 115, 116]⟩, .int .i64 1, .slice none 0 0, .int .i64 1, .int .i64 n, .string ⟨#[]⟩, .slice none 0 0, .int .i64 0, .string ⟨#[61]⟩, .int .i64 2, .slice (some ⟨w2.heap.size, 0, none⟩) 2 2, .int .i64 0, .int .i64 0, .string ⟨#[]⟩, .slice none 0 0, .int .i64 0] 55
  have HXc := Lib.hid Bc
  have HXd := Lib.hid Bd
  have hsc := Bc.size
  have hsd := Bd.size
  have hcd := Bc.below.trans (Bd.below.mono Bc.below.size)
  have HTE : Hid (Row wd (.slice (some ⟨w2.heap.size + 1, 0, none⟩) 2 2) 8 [iC 1 n, iEq] (InsC wd)) := by
    have hq := Bd.blk
    rw [hsc] at hq
    exact row_two (by omega) (insC_at hq rfl rfl rfl rfl rfl rfl rfl rfl (sl_nil _) (.nil _ _ _)) (insC_at hq rfl rfl rfl rfl rfl rfl rfl rfl (Sl.below (sl_arr (l := ints [0, 1]) Bc.blk rfl) Bd.below (Nat.le_refl _)) (.nil _ _ _))
  have HUPd : Hid (Row wd (.slice (some ⟨w1.heap.size + 1, 0, none⟩) 2 2) 8 [iC 2 1, iAdd] (InsC wd)) := HUP2.out.mono hcd.size fun _ _ _ _ hl h => h.bel hcd hl
  have HBd := Lib.hid (HB2.out.trans (hcd.mono HB2.out.size))
  clear Bc Bd hcd
  go_wp2_with fail
  rw [← HXc.out.eq, ← HXd.out.eq]
  with_reducible refine (lnum_any 0 wd).mono ?_
  rintro e w3 ⟨rfl, hb3⟩
  have HUP3 : Hid (Row w3 (.slice (some ⟨w1.heap.size + 1, 0, none⟩) 2 2) 8 [iC 2 1, iAdd] (InsC w3)) := HUPd.out.mono hb3.size fun _ _ _ _ hl h => h.bel hb3 hl
  have HTE3 : Hid (Row w3 (.slice (some ⟨w2.heap.size + 1, 0, none⟩) 2 2) 8 [iC 1 n, iEq] (InsC w3)) := HTE.out.mono hb3.size fun _ _ _ _ hl h => h.bel hb3 hl
  have HB3 := Lib.hid (HBd.out.trans (hb3.mono HBd.out.size))
  clear hb3
  obtain ⟨we, Be⟩ := boxed w3 #[.string ⟨#[99, 111, 110, 115, 116]⟩, .int .i64 0, .slice none 0 0, .int .i64 1, .int .i64 0, .string ⟨#[]⟩, .slice none 0 0, .int .i64 0] 55
  obtain ⟨wf, Bf⟩ := boxed we #[.slice (some ⟨w3.heap.size, 0, none⟩) 1 1, .int .i64 0, .int .i64 0, .slice none 0 0, .int .i64 0, .int .i64 1, .int .i64 0, .slice (some ⟨w2.heap.size + 1, 0, none⟩) 2 2, .int .i64 1, .int .i64 2, .slice none 0 0, .int .i64 0, .int .i64 2, .int .i64 3, .slice none 0 0, .int .i64 2, .int .i64 0, .slice none 0 0, .int .i64 0, .int .i64 0, .int .i64 0, .slice (some ⟨w1.heap.size + 1, 0, none⟩) 2 2, .int .i64 0, .int .i64 0, .slice none 0 0, .int .i64 0, .int .i64 1, .int .i64 0] 48
  obtain ⟨wg, Bg⟩ := boxed wf #[.int .i64 0, .int .i64 0, .int .i64 3, .slice (some ⟨w3.heap.size + 1, 0, none⟩) 4 4] 40
  obtain ⟨wh, Bh⟩ := boxed wg #[.int .i64 0, .int .i64 0, .int .i64 3, .slice (some ⟨w3.heap.size + 1, 0, none⟩) 4 4] 40
  have HXe := Lib.hid Be
  have HXf := Lib.hid Bf
  have HXg := Lib.hid Bg
  have HXh := Lib.hid Bh
  have hse := Be.size
  have hsf := Bf.size
  have hsg := Bg.size
  have hsh := Bh.size
  have hfh := Bg.below.trans (Bh.below.mono Bg.below.size)
  have hef := Be.below.trans (Bf.below.mono Be.below.size)
  have HCODE : Hid (CodeAt wh (.slice (some ⟨w3.heap.size + 1 + 1 + 1, 0, none⟩) 1 1) (cJ n)) := by
    have he := Be.blk
    have hf := Bf.blk
    have hh := Bh.blk
    rw [hse] at hf
    rw [hsg, hsf, hse] at hh
    have hfw := (hfh.block _ (by omega)).trans hf
    have i0 : Row wf (.slice (some ⟨w3.heap.size, 0, none⟩) 1 1) 8 [iC 0 0] (InsC wf) := Row.ins (row_one (by omega) (insC_at he rfl rfl rfl rfl rfl rfl rfl rfl (sl_nil _) (.nil _ _ _))) Bf.below
    have i1 := HTE3.out.ins hef
    have i3 := HUP3.out.ins hef
    exact row_one (by omega) (prcC_at hh rfl rfl rfl rfl (row_four (by omega) (blkC_at hfw rfl rfl rfl rfl rfl rfl rfl (i0.ins hfh) (sl_nil _)) (blkC_at hfw rfl rfl rfl rfl rfl rfl rfl (i1.ins hfh) (sl_nil _)) (blkC_at hfw rfl rfl rfl rfl rfl rfl rfl (row_nil _ _ _) (sl_nil _)) (blkC_at hfw rfl rfl rfl rfl rfl rfl rfl (i3.ins hfh) (sl_nil _))))
  have HBh := Lib.hid (HB3.out.trans ((hef.trans (hfh.mono hef.size)).mono HB3.out.size))
  clear Be Bf Bg Bh hfh hef
  go_wp2_with fail
  rw [← HXe.out.eq, ← HXf.out.eq, ← HXg.out.eq, ← HXh.out.eq]
  with_reducible refine (run_J _ wh HCODE.out).mono ?_
  rintro e w9 ⟨d, da, dc, rfl, hd, hb9, hdo⟩
  obtain ⟨o, ho⟩ : ∃ o, o = run (cJ n) [] 100000 := ⟨_, rfl⟩
  rw [← ho] at hdo ⊢
  have HWS : Hid (w.heap.size < wh.heap.size) := Nat.lt_of_lt_of_le (by have := HX0.out.size; omega) HBh.out.size
  have hr9 := (hb9.block w.heap.size HWS.out).trans ((HBh.out.block w.heap.size (by have := HX0.out.size; omega)).trans HX0.out.blk)
  have hl9 : w.heap.size < w9.heap.size := Nat.lt_of_lt_of_le HWS.out hb9.size
  obtain ⟨z0, z1, z2, z3, z4, z5, z6, z7, zf⟩ := Res8.of hr9
  have y0 := zf 0
  have y1 := zf 1
  have y2 := zf 2
  have y3 := zf 3
  have y4 := zf 4
  have y5 := zf 5
  have y6 := zf 6
  have y7 := zf 7
  have HR9 := Lib.hid hr9
  have HD := Lib.hid hd
  have HB9 : Hid (Below w.heap.size w w9) := (HX0.out.below.trans (HBh.out.mono HX0.out.below.size)).trans (hb9.mono (by have := HWS.out; omega))
  have HDO := Lib.hid hdo
  have HO := Lib.hid ho
  clear hr9 zf hd hb9 hdo ho HXa HXb HXc HXd HXe HXf HXg HXh HUP HUP2 HUP3 HUPd HTE HTE3 HCODE HB1 HB2 HB3 HBb HBd
  unfold outCells
  go_wp2_with fail
  refine bodyPost_ret (res1 rfl _ _ w.heap.size 33 _ (0, 0) rfl (out_set _ _ _ _ _ _ _ _ _ _ _ _ _ _ _ _ _ _ HR9.out) outcomeD outcomeSize) rfl ?_
  rw [← HO.out]
  refine ⟨d, da, dc, rfl, ?_, below8 HB9.out (Nat.le_refl _) _ _ _ _ _ _ _ _, HDO.out⟩
  refine (dt_eight HD.out (fun b hb => ?_) _ _ _ _ _ _ _ _).mono fun b hb _ => ?_
  · have h1 : wh.heap.size ≤ b := hb
    have h2 := HWS.out
    omega
  · have h1 : wh.heap.size ≤ b := hb
    have h2 := HWS.out
    show w.heap.size ≤ b
    omega
end Vm
end Go.Proofs.Ytalfnaielhbocaa
