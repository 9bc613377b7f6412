/- The machine's Run: carried out. -/
import Derived.Test.YtalfnaielhbocaaZJbh
import Derived.BigRegion
import Derived.Deep.RegionHeld3
import Derived.Test.YtalfnaielhbocaaZJam
import Derived.Test.YtalfnaielhbocaaZJax
import Derived.BigQuiet
set_option linter.unusedVariables false
set_option linter.unusedSimpArgs false
set_option linter.unnecessarySimpa false
namespace Go.Proofs.Ytalfnaielhbocaa
open Go.RowKit
set_option linter.unusedVariables false
set_option linter.unusedSimpArgs false
set_option maxRecDepth 100000
namespace Vm
section
variable {w : World} {cv : Value} {c : Code}
theorem heap_mid (w : World) (a b c : Obj) : (((w.alloc a).alloc b).alloc c).heap[w.heap.size + 1]? = some b := (heap_alloc_old _ _ (by simp)).trans (heap_new (by simp))
theorem heap_low (w : World) (a b c : Obj) : (((w.alloc a).alloc b).alloc c).heap[w.heap.size]? = some a := (heap_alloc_old _ _ (by simp; omega)).trans ((heap_alloc_old _ _ (by simp)).trans (heap_new rfl))
theorem conv_out {w : World} {a : Option Addr} {n cc : Nat} (l : List UInt8) (hn : n = l.length) (h : w.ownsRow 0 5 1 (.slice a n cc) n (bytes l)) (k : Nat) : (convert 65 9 (.slice a n cc)).run Try.prog (w.drewN k) = .ok (.string ⟨l.toArray⟩) (w.drewN k) := by
  subst hn
  have h := own_drewN h k
  rcases own_shape h with ⟨e, e2, e3⟩ | ⟨g, cap, e, h0, h1, h2, h3⟩
  · simp at e
    obtain ⟨rfl, h0, rfl⟩ := e
    have : l = [] := h0
    subst this
    exact run_convert_bytes_nil _ 65 5 Try.underlying65 Try.underlying5 _ _ 9 Try.underlying9
  · simp at e
    obtain ⟨rfl, rfl⟩ := e
    have hmap : (l.map fun b => (b.toNat : Int)).map (fun x => UInt8.ofNat x.toNat) = l := by
      rw [List.map_map]
      conv => rhs; rw [← List.map_id l]
      apply List.map_congr_left
      intro b _
      simp
    have := run_convert_bytes_arg (w.drewN k) 65 5 Try.underlying65 Try.underlying5 g 0 l.length cc (l.map fun b => (b.toNat : Int)) (by simp) (fun i hi => ?_) 9 Try.underlying9
    · rw [this]
      unfold strOfNums
      rw [hmap]
    · rw [Nat.zero_add, h.cellAt i (by omega)]
      simp [bytes, List.getD, List.getElem?_eq_getElem hi]
theorem run_begin {w3 wM : World} {cv : Value} {hb mb m : Nat} {ρ : Nat → Nat} {inp : List UInt8} {steps : Nat} (h : VmO w3 wM ρ (fun _ => .slice none 0 0) m cv (start0 inp) steps 0 hb mb (.slice none 0 0) (.slice none 0 0) (.pointer none) []) :
    MadeIn w3 wM ρ (fun _ => .slice none 0 0) m cv (start0 inp) steps 0 hb mb (.slice none 0 0) (.slice none 0 0) (.pointer none) [] 0 [] false [] (.slice none 0 0) (.pointer none) :=
  ⟨h, World.ownsRow_nil _ _ _ _, (fun b e => by simp [Value.ownBlock] at e), .nil, Nat.zero_le _, (fun c hc => nomatch hc), (fun f hf => nomatch hf), (fun f hf => nomatch hf), fun _ => rfl⟩
theorem keep4 {w : World} {q m i a b c d : Nat} {u0 u1 u2 u3 : Value} (h : m ≠ q) : ((((w.setCell ⟨q, a, none⟩ u0).setCell ⟨q, b, none⟩ u1).setCell ⟨q, c, none⟩ u2).setCell ⟨q, d, none⟩ u3).cell? ⟨m, i, none⟩ = w.cell? ⟨m, i, none⟩ :=
  (cell_set_block _ _ h).trans ((cell_set_block _ _ h).trans ((cell_set_block _ _ h).trans (cell_set_block _ _ h)))
theorem below8 {B : Nat} {w0 w : World} {g : Nat} (h : Below B w0 w) (hg : B ≤ g) (b0 b1 b2 b3 b4 b5 b6 b7 : Value) : Below B w0 ((((((((w.setCell ⟨g, 0, none⟩ b0).setCell ⟨g, 1, none⟩ b1).setCell ⟨g, 2, none⟩ b2).setCell ⟨g, 3, none⟩ b3).setCell ⟨g, 4, none⟩ b4).setCell ⟨g, 5, none⟩ b5).setCell ⟨g, 6, none⟩ b6).setCell ⟨g, 7, none⟩ b7) :=
  (((((((h.setCell (p := ⟨g, 0, none⟩) hg _).setCell (p := ⟨g, 1, none⟩) hg _).setCell (p := ⟨g, 2, none⟩) hg _).setCell (p := ⟨g, 3, none⟩) hg _).setCell (p := ⟨g, 4, none⟩) hg _).setCell (p := ⟨g, 5, none⟩) hg _).setCell (p := ⟨g, 6, none⟩) hg _).setCell (p := ⟨g, 7, none⟩) hg _
theorem drew_at {w : World} {g : Nat} {o : Option Obj} (h : w.heap[g]? = o) : w.drew.heap[g]? = o := h
theorem five_at {w : World} {q g i0 i1 i2 i3 i4 : Nat} {u0 u1 u2 u3 u4 : Value} {o : Option Obj} (hn : g ≠ q) (h : w.heap[g]? = o) : (((((w.setCell ⟨q, i0, none⟩ u0).setCell ⟨q, i1, none⟩ u1).setCell ⟨q, i2, none⟩ u2).setCell ⟨q, i3, none⟩ u3).setCell ⟨q, i4, none⟩ u4).heap[g]? = o := by
  rw [heap_setCell_other _ _ _ _ hn, heap_setCell_other _ _ _ _ hn, heap_setCell_other _ _ _ _ hn, heap_setCell_other _ _ _ _ hn, heap_setCell_other _ _ _ _ hn]
  exact h
theorem run_at {c : Code} {inp : List UInt8} {steps left done : Nat} {s : St} (h1 : steps ≤ 1000000) (he : chk c = 0) (hgo : go c steps (start c inp) = go c left s) (hst : s.e ≠ 0 ∨ s.done = true) (hsum : done + left = steps) : run c inp steps = ⟨s.e, ⟨s.out.toArray⟩, if s.e = 0 then Hp.tellT s.T s.told else none, done⟩ := by
  unfold run
  rw [if_neg (by omega), if_neg (fun h => h he)]
  have e : (steps : Int).toNat = steps := by omega
  rw [e, hgo, go_stop hst]
  have : (steps : Int) - left = done := by omega
  simp only [this]
structure Rn (w3 wx : World) (m : Nat) (cv : Value) (c : Code) (inp : List UInt8) (total gk : Nat) : Prop where
  ex : ∃ s left done n, VmAt w3 wx m cv s left done ∧ done + left = total ∧ go c total (start c inp) = go c left s ∧ Mo c n s ∧ n + left ≤ total + 1 ∧ (s.e = 0 → s.done = false → Cu c s ∧ s.pos = 0 ∧ left < gk)
set_option maxHeartbeats 16000000 in
theorem Run_good (inp : List UInt8) (steps : Nat) (al : Option Addr) (nl cl : Nat) (h1 : steps ≤ 800000) (hck : ChkIs (.slice al nl cl) c w) (he : chk c = 0) (hc : CodeOk c) (hcode : CodeAt w (.slice al nl cl) c) :
    Calls Try.prog 11 #[.agg #[.slice al nl cl], .string ⟨inp.toArray⟩, .int .i64 steps] w (OutPost (run c inp steps) w) := by
  have g1 : decide ((steps : Int) < 0) = false := decide_eq_false (by omega)
  have g2 : decide ((1000000 : Int) < steps) = false := decide_eq_false (by omega)
  have g2' : decide (1000000 < steps) = false := decide_eq_false (by omega)
  obtain ⟨w1, B1⟩ := boxed w #[.slice al nl cl] 24
  obtain ⟨w2, B2⟩ := boxed w1 #[.int .i64 0, .string ⟨#[]⟩, .int .i64 0, .int .i64 0, .string ⟨#[]⟩, .slice none 0 0, .bool false, .int .i64 0] 33
  have hs1 := B1.size
  have hs2 := B2.size
  have hB2 : Below w.heap.size w w2 := B1.below.trans (B2.below.mono B1.below.size)
  have hck2 := hck w2 hB2
  rw [he] at hck2
  have HCK := Lib.hid hck2
  have HCODE := Lib.hid hcode
  have HC0 := Lib.hid hc
  have HB1 := Lib.hid B1
  have HB2 := Lib.hid B2
  have HB := Lib.hid hB2
  clear hck hck2 B1 B2 hB2
  go_enter Try.func11, Try.ntmps11
  go_wp2_with fail
  rw [← HB1.out.eq, ← HB2.out.eq]
  with_reducible refine HCK.out.mono ?_
  rintro e w3 ⟨rfl, hb3⟩
  have hc3 := (hb3.block w.heap.size (by omega)).trans ((HB2.out.below.block w.heap.size (by omega)).trans HB1.out.blk)
  have cc := cell_of_row w3 w.heap.size 0 _ _ _ hc3
  simp only [List.getElem?_toArray, List.getElem?_cons_zero] at cc
  have hl3 : w.heap.size < w3.heap.size := (Array.getElem?_eq_some_iff.1 hc3).1
  have hr3 := (hb3.block w1.heap.size (by omega)).trans HB2.out.blk
  rw [hs1] at hr3
  have HR3 := Lib.hid hr3
  have HB3 := Lib.hid hb3
  have hs3 := hb3.size
  have HF : Hid (w3.cell? ⟨w.heap.size, 0, none⟩ = some (.slice al nl cl)) := cc
  have HNEW : Hid (∀ w, Calls Try.prog 21 #[] w fun e w' => e = .returned (.pointer (some ⟨w.heap.size, 0, none⟩)) ∧ w' = w.alloc (.cells #[.slice none 0 0] 83)) := fun w => new_any w
  have hmm : ∀ w, (Instr.makeMap 62 none).run Try.prog w = .ok (.map (some w.heap.size)) (w.alloc (.map #[] 0)) := fun w => run_makeMap _ w
  clear hb3 hc3 hr3
  go_wp2_with fail
  go_region_held3 (fun w' => w'.cell? ⟨w.heap.size, 0, none⟩ = some (.slice al nl cl))
    (first | exact HF.out | exact alloc_at _ HF.out | exact alloc_at _ (alloc_at _ HF.out) | exact alloc_at _ (alloc_at _ (alloc_at _ HF.out)))
    (first
      | (go_at_call 21; (with_reducible refine (HNEW.out _).mono ?_); rintro e w4 ⟨rfl, rfl⟩))
  all_goals first
    | (obtain ⟨wM, hwM⟩ : ∃ wM, wM = (((w3.alloc (.map #[] 0)).alloc (.cells #[.slice none 0 0] 83)).alloc (.cells #[.slice al nl cl, .pointer (some ⟨(w3.heap.size + 1), 0, none⟩), .map (some w3.heap.size), .string ⟨inp.toArray⟩, .slice none 0 0, .int .i64 4, .int .i64 0, .string ⟨#[]⟩, .int .i64 0, .int .i64 steps, .int .i64 0, .int .i64 0, .slice none 0 0, .slice none 0 0, .int .i64 0, .pointer none, .bool false, .int .i64 0, .int .i64 0, .string ⟨#[]⟩] 69)).drew := ⟨_, rfl⟩; rw [← hwM]; have X0 : ∃ ρ hb mb, VmO w3 wM ρ (fun _ => .slice none 0 0) (w3.heap.size + 1 + 1) (.slice al nl cl) (start0 inp) steps 0 hb mb (.slice none 0 0) (.slice none 0 0) (.pointer none) [] := ⟨_, (w3.heap.size + 1), w3.heap.size, hwM ▸ VmO.init inp steps ((((Below.refl _ _).alloc (Nat.le_refl _) _).alloc (by simp) _).alloc (by simp; omega) _).drew (heap_mid w3 _ _ _) ⟨#[], 0, heap_low w3 _ _ _, rfl⟩ (heap_new (by simp)) (by omega) (by omega) (by omega) (by omega) (by omega) (by omega)⟩)
    | (obtain ⟨wM, hwM⟩ : ∃ wM, wM = (((w3.alloc (.cells #[.slice none 0 0] 83)).alloc (.map #[] 0)).alloc (.cells #[.slice al nl cl, .pointer (some ⟨w3.heap.size, 0, none⟩), .map (some (w3.heap.size + 1)), .string ⟨inp.toArray⟩, .slice none 0 0, .int .i64 4, .int .i64 0, .string ⟨#[]⟩, .int .i64 0, .int .i64 steps, .int .i64 0, .int .i64 0, .slice none 0 0, .slice none 0 0, .int .i64 0, .pointer none, .bool false, .int .i64 0, .int .i64 0, .string ⟨#[]⟩] 69)).drew := ⟨_, rfl⟩; rw [← hwM]; have X0 : ∃ ρ hb mb, VmO w3 wM ρ (fun _ => .slice none 0 0) (w3.heap.size + 1 + 1) (.slice al nl cl) (start0 inp) steps 0 hb mb (.slice none 0 0) (.slice none 0 0) (.pointer none) [] := ⟨_, w3.heap.size, (w3.heap.size + 1), hwM ▸ VmO.init inp steps ((((Below.refl _ _).alloc (Nat.le_refl _) _).alloc (by simp) _).alloc (by simp; omega) _).drew (heap_low w3 _ _ _) ⟨#[], 0, heap_mid w3 _ _ _, rfl⟩ (heap_new (by simp)) (by omega) (by omega) (by omega) (by omega) (by omega) (by omega)⟩)
  all_goals
    obtain ⟨ρ0, hb, mb, X0⟩ := X0
    clear hwM
    have HM0 := made_any (run_begin X0)
    rw [show (((0 : Nat) : Int)) = 0 from rfl] at HM0
    have HM := Lib.hid HM0
    unfold MadePost St.newV Hp.V.val at HM
    dsimp only at HM
    rw [show (((start0 inp).T.length : Nat) : Int) = 0 from rfl] at HM
    clear HM0
    have HC1 := Lib.hid X0.c.below
    clear X0
    go_wp2_with fail
    with_reducible refine HM.out.mono ?_
    rintro e w5 ⟨rfl, ⟨ρ5, H5, X5, hz5⟩, hs5, hk5⟩
    have hcode3 : CodeAt w3 (.slice al nl cl) c := HCODE.out.bel (HB.out.trans (HB3.out.mono HB.out.size))
    have HCODE3 := Lib.hid hcode3
    have HCA0 := call_any X5 HC0.out hcode3 (start_mo c HC0.out inp) ⟨8, 0, ⟨#[]⟩⟩ [] none 0 (World.ownsRow_nil _ _ _ _) (fun b e => by simp [Value.ownBlock] at e)
    rw [show ([] : List Hp.V).length = 0 from rfl] at HCA0
    have HCA := Lib.hid HCA0
    unfold Hp.V.val at HCA
    dsimp only at HCA
    clear HCA0 X5 hz5 hk5 hcode3
    go_wp2_with fail
    with_reducible refine HCA.out.mono ?_
    rintro e w6 hV
    obtain ⟨rfl, hV2⟩ := hV
    have hst : call c ((start0 inp).made 0 [] false []) ⟨8, 0, ⟨#[]⟩⟩ [] = start c inp := rfl
    rw [hst] at hV2
    have hcok := call_ok HC0.out (start_mo c HC0.out inp) (v := ⟨8, 0, ⟨#[]⟩⟩) (a := []) (fun v hv => nomatch hv)
    rw [hst] at hcok
    have hR0 : Rn w3 w6 (w3.heap.size + 1 + 1) (.slice al nl cl) c inp steps (steps + 1) := ⟨⟨_, steps, 0, 1, hV2, by omega, rfl, hcok.1, by omega, fun e1 e2 => ⟨hcok.2 e1 e2 rfl, call_pos e1 e2, by omega⟩⟩⟩
    have HR0 := Lib.hid hR0
    clear hV2 hst hcok hR0
    go_wp2_with fail
    go_loopg [] (steps + 1) (fun gk wx => Hid (Rn w3 wx (w3.heap.size + 1 + 1) (.slice al nl cl) c inp steps gk))
    case atStart => exact HR0.out
    case round =>
      obtain ⟨s, left, done, n, ⟨ρ, H, hb', mb', ov, rv, fv, cbs, X⟩, hsum, hgo, hmo, hnl, hcu⟩ := (hrel : Hid _).out.ex
      have hmr := X.lt
      have c10 : wr.cell? ⟨w3.heap.size + 1 + 1, 10, none⟩ = some (.int .i64 s.e) := X.cell 10
      have c16 : wr.cell? ⟨w3.heap.size + 1 + 1, 16, none⟩ = some (.bool s.done) := X.cell 16
      by_cases hgoon : s.e = 0 ∧ s.done = false
      · obtain ⟨he0, hd0⟩ := hgoon
        obtain ⟨hu, hpos, hlg⟩ := hcu he0 hd0
        have HRUN := Lib.hid (run_any X HC0.out HCODE3.out hmo hu he0 hd0 hpos (by omega) (by omega))
        have HGO := Lib.hid hgo
        rw [hd0] at c16
        have k1 : (s.e == 0) = true := by rw [he0]; rfl
        clear X hgo hmo hu hcu
        go_wp2_with fail
        with_reducible refine HRUN.out.mono ?_
        rintro e w7 hV
        obtain ⟨rfl, s', left', done', n', hV', hsum', hgo', hmo', hnl', hcu'⟩ := hV
        have HN7 : Hid (Rn w3 w7 (w3.heap.size + 1 + 1) (.slice al nl cl) c inp steps left) := ⟨⟨s', left', done', n', hV', by omega, HGO.out.trans hgo', hmo', by omega, hcu'⟩⟩
        clear hV' hgo' hmo' hcu'
        go_wp2_with fail
        go_roundg left
        case measure => omega
        case rel => exact HN7.out
      · have hst : s.e ≠ 0 ∨ s.done = true := by
          by_cases h : s.e = 0
          · refine .inr ?_
            cases hd : s.done with
            | true => rfl
            | false => exact absurd ⟨h, hd⟩ hgoon
          · exact .inl h
        have HRA := Lib.hid (run_at (c := c) (inp := inp) (by omega) he hgo hst hsum)
        have hB7 := X.c.below
        have hrow := X.c.out
        obtain ⟨ao, co, hov⟩ := own_slice hrow
        subst hov
        have hconv := fun k => conv_out s.out rfl hrow k
        have hconv1 : (convert 65 9 (.slice ao s.out.length co)).run Try.prog wr.drew = .ok (.string ⟨s.out.toArray⟩) wr.drew := hconv 1
        have hconv0 : (convert 65 9 (.slice ao s.out.length co)).run Try.prog wr = .ok (.string ⟨s.out.toArray⟩) wr := hconv 0
        have hconvA : ∀ o, (convert 65 9 (.slice ao s.out.length co)).run Try.prog (wr.alloc o).drew = .ok (.string ⟨s.out.toArray⟩) (wr.alloc o).drew := fun o => conv_out s.out rfl (hrow.alloc o) 1
        have c4 : wr.cell? ⟨w3.heap.size + 1 + 1, 4, none⟩ = some (.slice ao s.out.length co) := X.cell 4
        have c8 : wr.cell? ⟨w3.heap.size + 1 + 1, 8, none⟩ = some (.int .i64 done) := X.cell 8
        have hres := (hB7.block (w.heap.size + 1) (by omega)).trans HR3.out
        obtain ⟨z0, z1, z2, z3, z4, z5, z6, z7, zf⟩ := Res8.of hres
        have y0 := zf 0
        have y1 := zf 1
        have y2 := zf 2
        have y3 := zf 3
        have y4 := zf 4
        have y5 := zf 5
        have y6 := zf 6
        have y7 := zf 7
        have hl7 : w.heap.size + 1 < wr.heap.size := by have := hB7.size; omega
        have HRES := Lib.hid hres
        have hBB : Below w.heap.size w wr := (HB.out.trans (HB3.out.mono HB.out.size)).trans (hB7.mono (by omega))
        have HBB := Lib.hid hBB
        have HX := Lib.hid X
        have HMO := Lib.hid hmo
        clear X hrow hconv hB7 hres zf hBB hmo hgo hcu
        by_cases hz : s.e = 0
        · have hd1 : s.done = true := hst.resolve_left (fun h => h hz)
          rw [hd1] at c16
          have k1 : (s.e == 0) = true := by rw [hz]; rfl
          obtain ⟨w7, B7⟩ := boxed wr #[.int .i64 s.e, .string ⟨s.out.toArray⟩, .int .i64 0, .int .i64 0, .string ⟨#[]⟩, .slice none 0 0, .bool false, .int .i64 done] 33
          have hs7 := B7.size
          have X7 := HX.out.bel B7.below
          have m10 : w7.cell? ⟨w3.heap.size + 1 + 1, 10, none⟩ = some (.int .i64 s.e) := X7.cell 10
          have hm7 := X7.lt
          have hres7 := (B7.below.block (w.heap.size + 1) hl7).trans HRES.out
          have hl8 : w.heap.size + 1 < w7.heap.size := by omega
          have hl9 : wr.heap.size < w7.heap.size := by omega
          have hn7 : wr.heap.size ≠ w.heap.size + 1 := by omega
          have hn8 : w.heap.size + 1 ≠ wr.heap.size := by omega
          have HRES7 := Lib.hid hres7
          have HB7 := Lib.hid B7
          rw [hz] at HB7 m10
          have m1 : w7.cell? ⟨w3.heap.size + 1 + 1, 1, none⟩ = some (.pointer (some ⟨hb', 0, none⟩)) := X7.cell 1
          have m17 : w7.cell? ⟨w3.heap.size + 1 + 1, 17, none⟩ = some (.int .i64 s.told.kind) := X7.cell 17
          have m18 : w7.cell? ⟨w3.heap.size + 1 + 1, 18, none⟩ = some (.int .i64 s.told.int) := X7.cell 18
          have m19 : w7.cell? ⟨w3.heap.size + 1 + 1, 19, none⟩ = some (.string s.told.text) := X7.cell 19
          have hmq : w3.heap.size + 1 + 1 ≠ wr.heap.size := by omega
          have HF7 : Hid (w7.cell? ⟨w3.heap.size + 1 + 1, 1, none⟩ = some (.pointer (some ⟨hb', 0, none⟩)) ∧ w7.cell? ⟨w3.heap.size + 1 + 1, 17, none⟩ = some (.int .i64 s.told.kind) ∧ w7.cell? ⟨w3.heap.size + 1 + 1, 17 + 1, none⟩ = some (.int .i64 s.told.int) ∧ w7.cell? ⟨w3.heap.size + 1 + 1, 17 + 2, none⟩ = some (.string s.told.text)) := ⟨m1, m17, m18, m19⟩
          have HF7a : Hid (w7.drew.drew.cell? ⟨w3.heap.size + 1 + 1, 1, none⟩ = some (.pointer (some ⟨hb', 0, none⟩)) ∧ w7.drew.drew.cell? ⟨w3.heap.size + 1 + 1, 17, none⟩ = some (.int .i64 s.told.kind) ∧ w7.drew.drew.cell? ⟨w3.heap.size + 1 + 1, 17 + 1, none⟩ = some (.int .i64 s.told.int) ∧ w7.drew.drew.cell? ⟨w3.heap.size + 1 + 1, 17 + 2, none⟩ = some (.string s.told.text)) := HF7.out
          have HF7b : Hid (w7.drew.cell? ⟨w3.heap.size + 1 + 1, 1, none⟩ = some (.pointer (some ⟨hb', 0, none⟩)) ∧ w7.drew.cell? ⟨w3.heap.size + 1 + 1, 17, none⟩ = some (.int .i64 s.told.kind) ∧ w7.drew.cell? ⟨w3.heap.size + 1 + 1, 17 + 1, none⟩ = some (.int .i64 s.told.int) ∧ w7.drew.cell? ⟨w3.heap.size + 1 + 1, 17 + 2, none⟩ = some (.string s.told.text)) := HF7.out
          have HTL := Lib.hid (Tell_any (w := w7.drew.drew) s.told (X7.drew 2).c.heap HMO.out.wf HMO.out.told)
          unfold Hp.V.val at HTL
          obtain ⟨q0, q1, q2, q3, q4, q5, q6, q7, qf⟩ := Res8.of B7.blk
          have hbq := B7.blk
          have HBQ := Lib.hid hbq
          have X7L := Lib.hid X7
          clear X7 B7 hres7 qf hbq
          go_wp2_with fail
          go_region
          rw [← HB7.out.eq]
          go_wp2_with fail
          go_region_held3 (fun w' => w'.cell? ⟨w3.heap.size + 1 + 1, 1, none⟩ = some (.pointer (some ⟨hb', 0, none⟩)) ∧ w'.cell? ⟨w3.heap.size + 1 + 1, 17, none⟩ = some (.int .i64 s.told.kind) ∧ w'.cell? ⟨w3.heap.size + 1 + 1, 17 + 1, none⟩ = some (.int .i64 s.told.int) ∧ w'.cell? ⟨w3.heap.size + 1 + 1, 17 + 2, none⟩ = some (.string s.told.text))
            (first | with_reducible exact HF7a.out | with_reducible exact HF7.out | with_reducible exact HF7b.out | with_reducible exact HF8.out | with_reducible exact HF9.out _ _ _ _ | with_reducible exact HF10.out _ _ _ _ _)
            (first
              | (go_at_call 25; (with_reducible refine HTL.out.mono ?_); rintro e w8 ⟨d, ad, cd, rfl, hdt, hb8, hde⟩; have hb78 : Below w7.heap.size w7 w8 := (((Below.refl _ _).drew).drew).trans hb8; have HDT := Lib.hid hdt; have HDE := Lib.hid hde; have HB78 := Lib.hid hb78; have X8 := X7L.out.bel hb78; have n1 : w8.cell? ⟨w3.heap.size + 1 + 1, 1, none⟩ = some (.pointer (some ⟨hb', 0, none⟩)) := X8.cell 1; have n17 : w8.cell? ⟨w3.heap.size + 1 + 1, 17, none⟩ = some (.int .i64 s.told.kind) := X8.cell 17; have n18 : w8.cell? ⟨w3.heap.size + 1 + 1, 18, none⟩ = some (.int .i64 s.told.int) := X8.cell 18; have n19 : w8.cell? ⟨w3.heap.size + 1 + 1, 19, none⟩ = some (.string s.told.text) := X8.cell 19; have HF8 := Lib.hid (And.intro n1 (And.intro n17 (And.intro n18 n19))); have HF9 : Hid (∀ u0 u1 u2 u3 : Value, ((((w8.setCell ⟨wr.heap.size, 2, none⟩ u0).setCell ⟨wr.heap.size, 2 + 1, none⟩ u1).setCell ⟨wr.heap.size, 2 + 2, none⟩ u2).setCell ⟨wr.heap.size, 2 + 3, none⟩ u3).cell? ⟨w3.heap.size + 1 + 1, 1, none⟩ = some (.pointer (some ⟨hb', 0, none⟩)) ∧ ((((w8.setCell ⟨wr.heap.size, 2, none⟩ u0).setCell ⟨wr.heap.size, 2 + 1, none⟩ u1).setCell ⟨wr.heap.size, 2 + 2, none⟩ u2).setCell ⟨wr.heap.size, 2 + 3, none⟩ u3).cell? ⟨w3.heap.size + 1 + 1, 17, none⟩ = some (.int .i64 s.told.kind) ∧ ((((w8.setCell ⟨wr.heap.size, 2, none⟩ u0).setCell ⟨wr.heap.size, 2 + 1, none⟩ u1).setCell ⟨wr.heap.size, 2 + 2, none⟩ u2).setCell ⟨wr.heap.size, 2 + 3, none⟩ u3).cell? ⟨w3.heap.size + 1 + 1, 17 + 1, none⟩ = some (.int .i64 s.told.int) ∧ ((((w8.setCell ⟨wr.heap.size, 2, none⟩ u0).setCell ⟨wr.heap.size, 2 + 1, none⟩ u1).setCell ⟨wr.heap.size, 2 + 2, none⟩ u2).setCell ⟨wr.heap.size, 2 + 3, none⟩ u3).cell? ⟨w3.heap.size + 1 + 1, 17 + 2, none⟩ = some (.string s.told.text)) := fun u0 u1 u2 u3 => ⟨(keep4 hmq).trans n1, (keep4 hmq).trans n17, (keep4 hmq).trans n18, (keep4 hmq).trans n19⟩; have HF10 : Hid (∀ u0 u1 u2 u3 u4 : Value, (((((w8.setCell ⟨wr.heap.size, 2, none⟩ u0).setCell ⟨wr.heap.size, 2 + 1, none⟩ u1).setCell ⟨wr.heap.size, 2 + 2, none⟩ u2).setCell ⟨wr.heap.size, 2 + 3, none⟩ u3).setCell ⟨wr.heap.size, 6, none⟩ u4).cell? ⟨w3.heap.size + 1 + 1, 1, none⟩ = some (.pointer (some ⟨hb', 0, none⟩)) ∧ (((((w8.setCell ⟨wr.heap.size, 2, none⟩ u0).setCell ⟨wr.heap.size, 2 + 1, none⟩ u1).setCell ⟨wr.heap.size, 2 + 2, none⟩ u2).setCell ⟨wr.heap.size, 2 + 3, none⟩ u3).setCell ⟨wr.heap.size, 6, none⟩ u4).cell? ⟨w3.heap.size + 1 + 1, 17, none⟩ = some (.int .i64 s.told.kind) ∧ (((((w8.setCell ⟨wr.heap.size, 2, none⟩ u0).setCell ⟨wr.heap.size, 2 + 1, none⟩ u1).setCell ⟨wr.heap.size, 2 + 2, none⟩ u2).setCell ⟨wr.heap.size, 2 + 3, none⟩ u3).setCell ⟨wr.heap.size, 6, none⟩ u4).cell? ⟨w3.heap.size + 1 + 1, 17 + 1, none⟩ = some (.int .i64 s.told.int) ∧ (((((w8.setCell ⟨wr.heap.size, 2, none⟩ u0).setCell ⟨wr.heap.size, 2 + 1, none⟩ u1).setCell ⟨wr.heap.size, 2 + 2, none⟩ u2).setCell ⟨wr.heap.size, 2 + 3, none⟩ u3).setCell ⟨wr.heap.size, 6, none⟩ u4).cell? ⟨w3.heap.size + 1 + 1, 17 + 2, none⟩ = some (.string s.told.text)) := fun u0 u1 u2 u3 u4 => ⟨(cell_set_block _ _ hmq).trans ((keep4 hmq).trans n1), (cell_set_block _ _ hmq).trans ((keep4 hmq).trans n17), (cell_set_block _ _ hmq).trans ((keep4 hmq).trans n18), (cell_set_block _ _ hmq).trans ((keep4 hmq).trans n19)⟩; have hbq8 := (hb78.block wr.heap.size hl9).trans HBQ.out; have HBQ8 := Lib.hid hbq8; obtain ⟨r0, r1, r2, r3, r4, r5, r6, r7, rf⟩ := Res8.of hbq8; have rf2 := rf 2; have rf3 := rf 3; have rf4 := rf 4; have rf5 := rf 5; have rf6 := rf 6; have hres8 := (hb78.block (w.heap.size + 1) hl8).trans HRES7.out; have HRES8 := Lib.hid hres8; obtain ⟨t0, t1, t2, t3, t4, t5, t6, t7, tf⟩ := Res8.of hres8; have tf0 := tf 0; have tf1 := tf 1; have tf2 := tf 2; have tf3 := tf 3; have tf4 := tf 4; have tf5 := tf 5; have tf6 := tf 6; have tf7 := tf 7; have hl88 : w.heap.size + 1 < w8.heap.size := Nat.lt_of_lt_of_le hl8 hb78.size; have hl98 : wr.heap.size < w8.heap.size := Nat.lt_of_lt_of_le hl9 hb78.size; have hm8 := X8.lt; clear hdt hb8 hde hb78 X8 hbq8 rf hres8 tf))
          all_goals
            go_wp2_with fail
            refine bodyPost_ret (res1 rfl _ _ (w.heap.size + 1) 33 _ (0, 0) rfl (out_set _ _ _ _ _ _ _ _ _ _ _ _ _ _ _ _ _ _ (five_at hn8 HRES8.out)) outcomeD outcomeSize) rfl ?_
            rw [HRA.out, if_pos hz, hz]
            have hb8 : Below w.heap.size w w8 := (HBB.out.trans (HB7.out.below.mono HBB.out.size)).trans (HB78.out.mono (by omega))
            have hq : w.heap.size ≤ wr.heap.size := by omega
            refine ⟨d, ad, cd, ?_, ?_, ?_, HDE.out⟩
            · rfl
            · refine HDT.out.same (fun b h1 h2 => ?_) ?_ fun b h1 h2 => ?_
              · have h3 : w7.heap.size ≤ b := h1
                omega
              · simp [World.setCell]
              · have h3 : w7.heap.size ≤ b := h1
                have e1 : b ≠ wr.heap.size := by omega
                have e2 : b ≠ w.heap.size + 1 := by omega
                rw [heap_setCell_other _ _ _ _ e2, heap_setCell_other _ _ _ _ e2, heap_setCell_other _ _ _ _ e2, heap_setCell_other _ _ _ _ e2, heap_setCell_other _ _ _ _ e2, heap_setCell_other _ _ _ _ e2, heap_setCell_other _ _ _ _ e2, heap_setCell_other _ _ _ _ e2, heap_setCell_other _ _ _ _ e1, heap_setCell_other _ _ _ _ e1, heap_setCell_other _ _ _ _ e1, heap_setCell_other _ _ _ _ e1, heap_setCell_other _ _ _ _ e1]
            · exact below8 (((((hb8.setCell (p := ⟨wr.heap.size, 2, none⟩) hq _).setCell (p := ⟨wr.heap.size, 3, none⟩) hq _).setCell (p := ⟨wr.heap.size, 4, none⟩) hq _).setCell (p := ⟨wr.heap.size, 5, none⟩) hq _).setCell (p := ⟨wr.heap.size, 6, none⟩) hq _) (Nat.le_succ _) _ _ _ _ _ _ _ _
        · have k1 : (s.e == 0) = false := beq_eq_false_iff_ne.2 hz
          obtain ⟨w7, B7⟩ := boxed wr #[.int .i64 s.e, .string ⟨s.out.toArray⟩, .int .i64 0, .int .i64 0, .string ⟨#[]⟩, .slice none 0 0, .bool false, .int .i64 done] 33
          have hs7 := B7.size
          have X7 := HX.out.bel B7.below
          have m10 : w7.cell? ⟨w3.heap.size + 1 + 1, 10, none⟩ = some (.int .i64 s.e) := X7.cell 10
          have hm7 := X7.lt
          have hres7 := (B7.below.block (w.heap.size + 1) hl7).trans HRES.out
          have hl8 : w.heap.size + 1 < w7.heap.size := by omega
          have hl9 : wr.heap.size < w7.heap.size := by omega
          have hn7 : wr.heap.size ≠ w.heap.size + 1 := by omega
          have hn8 : w.heap.size + 1 ≠ wr.heap.size := by omega
          have HRES7 := Lib.hid hres7
          have HB7 := Lib.hid B7
          obtain ⟨t0, t1, t2, t3, t4, t5, t6, t7, tf⟩ := Res8.of hres7
          have tf0 := tf 0
          have tf1 := tf 1
          have tf2 := tf 2
          have tf3 := tf 3
          have tf4 := tf 4
          have tf5 := tf 5
          have tf6 := tf 6
          have tf7 := tf 7
          obtain ⟨q0, q1, q2, q3, q4, q5, q6, q7, qf⟩ := Res8.of B7.blk
          clear hres7 tf qf B7 X7
          go_wp2_with fail
          go_region
          rw [← HB7.out.eq]
          go_wp2_with fail
          refine bodyPost_ret (res1 rfl _ _ (w.heap.size + 1) 33 _ (0, 0) rfl (drew_at (out_set _ _ _ _ _ _ _ _ _ _ _ _ _ _ _ _ _ _ HRES7.out)) outcomeD outcomeSize) rfl ?_
          rw [HRA.out, if_neg hz]
          refine ⟨.mk 0 0 ⟨#[]⟩ [], none, 0, ?_, .nil _ _ _, ?_, ?_⟩
          · rfl
          · exact (below8 (HBB.out.trans (HB7.out.below.mono HBB.out.size)) (Nat.le_succ _) _ _ _ _ _ _ _ _).drew
          · rfl
end
end Vm
end Go.Proofs.Ytalfnaielhbocaa
namespace Go.Proofs.Ytalfnaielhbocaa
open Go.RowKit
set_option linter.unusedVariables false
set_option linter.unusedSimpArgs false
namespace Vm
theorem run_far {c : Code} {inp : List UInt8} {steps : Int} (h : steps < 0 ∨ 1000000 < steps) : run c inp steps = ⟨1, ⟨#[]⟩, none, 0⟩ := by
  unfold run
  rw [if_pos h]
theorem run_form {c : Code} {inp : List UInt8} {steps : Int} (h : ¬ (steps < 0 ∨ 1000000 < steps)) (hc : chk c ≠ 0) : run c inp steps = ⟨chk c, ⟨#[]⟩, none, 0⟩ := by
  unfold run
  rw [if_neg h, if_pos hc]
theorem Run_any {w : World} {c : Code} (inp : List UInt8) (steps : Int) (al : Option Addr) (cl : Nat) (h1 : steps ≤ 800000 ∨ 1000000 < steps) (hcode : CodeAt w (.slice al c.length cl) c) (hlen : c.length ≤ 1000000000000000) (hfit : ∀ p ∈ c, PrcFit p) :
    Calls Try.prog 11 #[.agg #[.slice al c.length cl], .string ⟨inp.toArray⟩, .int .i64 steps] w (OutPost (run c inp steps) w) := by
  by_cases hs : steps < 0 ∨ 1000000 < steps
  · rw [run_far hs]
    exact Run_steps _ _ _ _ _ (by omega)
  · by_cases he : chk c = 0
    · obtain ⟨n, rfl⟩ : ∃ n : Nat, steps = n := ⟨steps.toNat, by omega⟩
      exact Run_good inp n al c.length cl (by omega) (chk_is al cl hcode hlen hfit) he (codeOk he hfit) hcode
    · rw [run_form hs he]
      exact Run_form _ _ _ _ _ (by omega) (by omega) (chk_is al cl hcode hlen hfit) he
def code1 (regs : Int) (l : List Ins) (x : Fin) : Code := [⟨0, 0, regs, [⟨l, x⟩]⟩]
def fxA : Code := code1 1 [⟨sConst, 0, [], .mk 1 5 ⟨#[]⟩ [], 0⟩] ⟨2, 0, [], 0, 0, 0⟩
def fxB : Code := code1 1 [] ⟨3, 0, [], 0, 0, 0⟩
def fxC : Code := code1 1 [] ⟨0, 0, [], 0, 0, 0⟩
theorem run_of {c : Code} {inp : List UInt8} {n : Nat} (h : n ≤ 1000000) (hc : chk c = 0) {s : St} {left : Nat} (hg : go c n (start c inp) = (s, left)) : run c inp n = ⟨s.e, ⟨s.out.toArray⟩, if s.e = 0 then Hp.tellT s.T s.told else none, (n : Int) - left⟩ := by
  unfold run
  rw [if_neg (by omega), if_neg (by rw [hc]; decide), Int.toNat_natCast, hg]
theorem tell_int (T : List Hp.Th) (n : Int) (h : isN n = true) : Hp.tellT T ⟨1, n, ⟨#[]⟩⟩ = some (.mk 1 n ⟨#[]⟩ []) := by
  have hm : Hp.may T.length ⟨1, n, ⟨#[]⟩⟩ = true := h
  rw [Hp.tellT, if_pos hm]
  rfl
theorem fxA_run : run fxA [] 10 = ⟨0, ⟨#[]⟩, some (.mk 1 5 ⟨#[]⟩ []), 2⟩ := by
  obtain ⟨s, left, h⟩ : ∃ s left, go fxA 10 (start fxA []) = (s, left) := ⟨_, _, rfl⟩
  have h1 : s.e = 0 := by rw [show s = (go fxA 10 (start fxA [])).1 by rw [h]]; decide +kernel
  have h2 : s.out = [] := by rw [show s = (go fxA 10 (start fxA [])).1 by rw [h]]; decide +kernel
  have h3 : left = 8 := by rw [show left = (go fxA 10 (start fxA [])).2 by rw [h]]; decide +kernel
  have h4 : s.told.kind = 1 ∧ s.told.int = 5 ∧ s.told.text = ⟨#[]⟩ := by rw [show s = (go fxA 10 (start fxA [])).1 by rw [h]]; decide +kernel
  have := run_of (c := fxA) (inp := []) (n := 10) (by decide) (by decide +kernel) h
  rw [show run fxA [] 10 = run fxA [] ((10 : Nat) : Int) from rfl, this, h1, h2, h3]
  have h5 : Hp.tellT s.T s.told = some (.mk 1 5 ⟨#[]⟩ []) := by
    have hv : s.told = ⟨1, 5, ⟨#[]⟩⟩ := by
      revert h4
      generalize s.told = v
      rintro ⟨h1, h2, h3⟩
      obtain ⟨a, b, c⟩ := v
      dsimp only at h1 h2 h3
      rw [h1, h2, h3]
    rw [hv]
    exact tell_int s.T 5 (by decide +kernel)
  rw [if_pos rfl, h5]
  rfl
theorem fxB_run : ∃ o st, run fxB [] 10 = ⟨90, o, none, st⟩ := by
  obtain ⟨s, left, h⟩ : ∃ s left, go fxB 10 (start fxB []) = (s, left) := ⟨_, _, rfl⟩
  have h1 : s.e = 90 := by rw [show s = (go fxB 10 (start fxB [])).1 by rw [h]]; decide +kernel
  have := run_of (c := fxB) (inp := []) (n := 10) (by decide) (by decide +kernel) h
  rw [h1, if_neg (by decide)] at this
  exact ⟨_, _, this⟩
theorem fxC_run : ∃ o st, run fxC [] 10 = ⟨93, o, none, st⟩ := by
  obtain ⟨s, left, h⟩ : ∃ s left, go fxC 10 (start fxC []) = (s, left) := ⟨_, _, rfl⟩
  have h1 : s.e = 93 := by rw [show s = (go fxC 10 (start fxC [])).1 by rw [h]]; decide +kernel
  have := run_of (c := fxC) (inp := []) (n := 10) (by decide) (by decide +kernel) h
  rw [h1, if_neg (by decide)] at this
  exact ⟨_, _, this⟩
end Vm
end Go.Proofs.Ytalfnaielhbocaa
namespace Go.Proofs.Ytalfnaielhbocaa
open Go.RowKit
set_option linter.unusedVariables false
set_option linter.unusedSimpArgs false
set_option maxRecDepth 100000
namespace Vm
theorem codeD : ∃ fs, Try.prog.underlying 24 = some (.struct fs) := ⟨_, Try.underlying24⟩
theorem codeSize : (Try.prog.info? 24).map (·.size) = some 1 := by kernel_rfl
theorem row_one {α : Type} {w : World} {size b : Nat} {x : α} {R : α → Nat → Nat → Prop} (hb : b < w.heap.size) (h : R x b 0) : Row w (.slice (some ⟨b, 0, none⟩) 1 1) size [x] R :=
  ⟨_, 1, rfl, .inr ⟨b, 0, rfl, hb, fun j y hy => by
    cases j with
    | zero =>
      simp at hy
      subst hy
      rw [Nat.zero_mul]
      exact h
    | succ j => simp at hy⟩⟩
set_option maxHeartbeats 4000000 in
theorem one_any (regs : Int) (l : List Ins) (al : Option Addr) (cl : Nat) (x : Fin) (aa : Option Addr) (ca : Nat) (w : World) (hl : Row w (.slice al l.length cl) 8 l (InsC w)) (ha : Sl w (.slice aa x.args.length ca) (ints x.args)) :
    Calls Try.prog 17 #[.int .i64 regs, .slice al l.length cl, finV x (.slice aa x.args.length ca)] w fun e w' => ∃ b, e = .returned (.agg #[.slice (some ⟨b, 0, none⟩) 1 1]) ∧ CodeAt w' (.slice (some ⟨b, 0, none⟩) 1 1) (code1 regs l x) ∧ Below w.heap.size w w' := by
  have HL := Lib.hid hl
  have HA := Lib.hid ha
  clear hl ha
  unfold finV
  go_enter Try.func17, Try.ntmps17
  go_wp2_with fail
  generalize hW2 : (w.alloc (Obj.cells #[.int .i64 x.kind, .int .i64 x.reg, .slice aa x.args.length ca, .int .i64 x.to, .int .i64 x.next, .int .i64 x.els] 45)).alloc (Obj.cells #[.slice (some ⟨w.heap.size + 1 + 1 + 1, 0, none⟩) 1 1] 24) = W2
  have hs2 : W2.heap.size = w.heap.size + 1 + 1 := by rw [← hW2]; simp
  have hb2 : Below w.heap.size w W2 := by rw [← hW2]; exact ((Below.refl _ _).alloc (Nat.le_refl _) _).alloc (by simp) _
  have hc2 : W2.heap[w.heap.size + 1]? = some (.cells #[.slice (some ⟨w.heap.size + 1 + 1 + 1, 0, none⟩) 1 1] 24 (0, 0)) := by rw [← hW2]; exact heap_new (by simp)
  clear hW2
  generalize hW3 : W2.alloc (Obj.cells #[.slice al l.length cl, .int .i64 x.kind, .int .i64 x.reg, .slice aa x.args.length ca, .int .i64 x.to, .int .i64 x.next, .int .i64 x.els] 48) = W3
  have hs3 : W3.heap.size = w.heap.size + 1 + 1 + 1 := by rw [← hW3]; simp [hs2]
  have hb3 : Below W2.heap.size W2 W3 := by rw [← hW3]; exact (Below.refl _ _).alloc (Nat.le_refl _) _
  have hc3 : W3.heap[w.heap.size + 1 + 1]? = some (.cells #[.slice al l.length cl, .int .i64 x.kind, .int .i64 x.reg, .slice aa x.args.length ca, .int .i64 x.to, .int .i64 x.next, .int .i64 x.els] 48 (0, 0)) := by rw [← hW3]; exact heap_new (by rw [hs2])
  clear hW3
  generalize hW4 : W3.alloc (Obj.cells #[.int .i64 0, .int .i64 0, .int .i64 regs, .slice (some ⟨w.heap.size + 1 + 1, 0, none⟩) 1 1] 40) = W4
  have hs4 : W4.heap.size = w.heap.size + 1 + 1 + 1 + 1 := by rw [← hW4]; simp [hs3]
  have hb4 : Below W3.heap.size W3 W4 := by rw [← hW4]; exact (Below.refl _ _).alloc (Nat.le_refl _) _
  have hc4 : W4.heap[w.heap.size + 1 + 1 + 1]? = some (.cells #[.int .i64 0, .int .i64 0, .int .i64 regs, .slice (some ⟨w.heap.size + 1 + 1, 0, none⟩) 1 1] 40 (0, 0)) := by rw [← hW4]; exact heap_new (by rw [hs3])
  clear hW4
  have hb : Below w.heap.size w W4 := (hb2.trans (hb3.mono hb2.size)).trans (hb4.mono (by omega))
  have hq2 : W4.heap[w.heap.size + 1]? = some (.cells #[.slice (some ⟨w.heap.size + 1 + 1 + 1, 0, none⟩) 1 1] 24 (0, 0)) := (hb4.block _ (by omega)).trans ((hb3.block _ (by omega)).trans hc2)
  have hq3 := (hb4.block (w.heap.size + 1 + 1) (by omega)).trans hc3
  refine bodyPost_ret (res1 rfl _ _ (w.heap.size + 1) 24 _ (0, 0) rfl hq2 codeD codeSize) rfl ?_
  refine ⟨w.heap.size + 1 + 1 + 1, rfl, row_one (by omega) ⟨cell_of_row _ _ 0 _ _ _ hc4, cell_of_row _ _ 1 _ _ _ hc4, cell_of_row _ _ 2 _ _ _ hc4, _, cell_of_row _ _ 3 _ _ _ hc4, row_one (by omega) ?_⟩, hb⟩
  exact ⟨⟨_, cell_of_row _ _ 0 _ _ _ hq3, HL.out.mono hb.size fun y _ b o hlt h => h.bel hb hlt⟩, cell_of_row _ _ 1 _ _ _ hq3, cell_of_row _ _ 2 _ _ _ hq3, ⟨_, cell_of_row _ _ 3 _ _ _ hq3, HA.out.below hb (Nat.le_refl _)⟩, cell_of_row _ _ 4 _ _ _ hq3, cell_of_row _ _ 5 _ _ _ hq3, cell_of_row _ _ 6 _ _ _ hq3⟩
theorem lnum_any (n : Int) (w : World) : Calls Try.prog 16 #[.int .i64 n] w fun e w' => e = .returned (.agg #[.int .i64 1, .int .i64 n, .string ⟨#[]⟩, .slice none 0 0]) ∧ Below w.heap.size w w' := by
  go_enter Try.func16, Try.ntmps16
  go_wp2_with fail
  refine bodyPost_ret (res1 rfl _ _ w.heap.size 31 _ (0, 0) rfl (heap_new (by simp)) datumD datumSize) rfl ?_
  exact ⟨rfl, (Below.refl _ _).alloc (Nat.le_refl _) _⟩
end Vm
end Go.Proofs.Ytalfnaielhbocaa
namespace Go.Proofs.Ytalfnaielhbocaa
open Go.RowKit
set_option linter.unusedVariables false
set_option linter.unusedSimpArgs false
set_option maxRecDepth 100000
namespace Vm
theorem fit_leaf (k i : Int) (t : ByteArray) (h : t.size ≤ maxLen) : Dt.Fit (.mk k i t []) := .mk k i t [] h (by simp) (by simp)
theorem fxA_fit : ∀ p ∈ fxA, PrcFit p := by
  intro p hp
  simp [fxA, code1] at hp
  subst hp
  refine ⟨by decide, fun b hb => ?_⟩
  simp at hb
  subst hb
  refine ⟨by decide, by decide, fun x hx => ?_⟩
  simp at hx
  subst hx
  exact ⟨by decide, fit_leaf _ _ _ (by decide)⟩
theorem fx0_fit (x : Fin) (hx : x.args.length ≤ 9223372036854775807) : ∀ p ∈ code1 1 [] x, PrcFit p := by
  intro p hp
  simp [code1] at hp
  subst hp
  refine ⟨by simp, fun b hb => ?_⟩
  simp at hb
  subst hb
  exact ⟨by simp, hx, fun x hx => by simp at hx⟩
theorem sl_nil (w : World) : Sl w (.slice none 0 0) (ints []) := ⟨none, 0, rfl, .inl ⟨rfl, rfl, rfl⟩⟩
theorem row_nil {α : Type} (w : World) (size : Nat) (R : α → Nat → Nat → Prop) : Row w (.slice none 0 0) size ([] : List α) R := ⟨none, 0, rfl, .inl rfl⟩
abbrev outV (e : Int) (o : ByteArray) (k i : Int) (t : ByteArray) (lv : Value) (ok : Bool) (n : Int) : Value := .agg #[.int .i64 e, .string o, .int .i64 k, .int .i64 i, .string t, lv, .bool ok, .int .i64 n]
theorem fx_oneA (w : World) : Calls Try.prog 17 #[.int .i64 1, .slice (some ⟨w.heap.size, 0, none⟩) 1 1, .agg #[.int .i64 2, .int .i64 0, .slice none 0 0, .int .i64 0, .int .i64 0, .int .i64 0]]
    (w.alloc (.cells #[.string ⟨#[99, 111, 110, 115, 116]⟩, .int .i64 0, .slice none 0 0, .int .i64 1, .int .i64 5, .string ⟨#[]⟩, .slice none 0 0, .int .i64 0] 55)) fun e w' => ∃ b, e = .returned (.agg #[.slice (some ⟨b, 0, none⟩) 1 1]) ∧ CodeAt w' (.slice (some ⟨b, 0, none⟩) 1 1) fxA ∧ Below w.heap.size w w' := by
  generalize hW : w.alloc (.cells #[.string ⟨#[99, 111, 110, 115, 116]⟩, .int .i64 0, .slice none 0 0, .int .i64 1, .int .i64 5, .string ⟨#[]⟩, .slice none 0 0, .int .i64 0] 55) = W
  have hs : W.heap.size = w.heap.size + 1 := by rw [← hW]; simp
  have hb : Below w.heap.size w W := by rw [← hW]; exact (Below.refl _ _).alloc (Nat.le_refl _) _
  have hc : W.heap[w.heap.size]? = some (.cells #[.string ⟨#[99, 111, 110, 115, 116]⟩, .int .i64 0, .slice none 0 0, .int .i64 1, .int .i64 5, .string ⟨#[]⟩, .slice none 0 0, .int .i64 0] 55 (0, 0)) := by rw [← hW]; exact heap_new rfl
  clear hW
  have hrow : Row W (.slice (some ⟨w.heap.size, 0, none⟩) 1 1) 8 [(⟨sConst, 0, [], .mk 1 5 ⟨#[]⟩ [], 0⟩ : Ins)] (InsC W) :=
    row_one (by omega) ⟨cell_of_row _ _ 0 _ _ _ hc, cell_of_row _ _ 1 _ _ _ hc, ⟨_, cell_of_row _ _ 2 _ _ _ hc, sl_nil _⟩, cell_of_row _ _ 3 _ _ _ hc, cell_of_row _ _ 4 _ _ _ hc, cell_of_row _ _ 5 _ _ _ hc, ⟨_, cell_of_row _ _ 6 _ _ _ hc, .nil _ _ _⟩, cell_of_row _ _ 7 _ _ _ hc⟩
  refine Calls.mono (one_any 1 [⟨sConst, 0, [], .mk 1 5 ⟨#[]⟩ [], 0⟩] _ 1 ⟨2, 0, [], 0, 0, 0⟩ none 0 W hrow (sl_nil _)) ?_
  rintro e w' ⟨b, rfl, h1, h2⟩
  exact ⟨b, rfl, h1, hb.trans (h2.mono (by omega))⟩
theorem fx_one0 (k : Int) (w : World) : Calls Try.prog 17 #[.int .i64 1, .slice none 0 0, .agg #[.int .i64 k, .int .i64 0, .slice none 0 0, .int .i64 0, .int .i64 0, .int .i64 0]] w fun e w' => ∃ b, e = .returned (.agg #[.slice (some ⟨b, 0, none⟩) 1 1]) ∧ CodeAt w' (.slice (some ⟨b, 0, none⟩) 1 1) (code1 1 [] ⟨k, 0, [], 0, 0, 0⟩) ∧ Below w.heap.size w w' :=
  one_any 1 [] none 0 ⟨k, 0, [], 0, 0, 0⟩ none 0 w (row_nil _ _ _) (sl_nil _)
theorem fx_runA (b : Nat) (w : World) (h : CodeAt w (.slice (some ⟨b, 0, none⟩) 1 1) fxA) : Calls Try.prog 11 #[.agg #[.slice (some ⟨b, 0, none⟩) 1 1], .string ⟨#[]⟩, .int .i64 10] w
    fun e w' => ∃ a c, e = .returned (outV 0 ⟨#[]⟩ 1 5 ⟨#[]⟩ (.slice a 0 c) true 2) ∧ DtAt w' (fun b => w.heap.size ≤ b) (.agg #[.int .i64 1, .int .i64 5, .string ⟨#[]⟩, .slice a 0 c]) (.mk 1 5 ⟨#[]⟩ []) ∧ Below w.heap.size w w' := by
  have hl : fxA.length ≤ 1000000000000000 := by simp [fxA, code1]
  have H := Run_any [] 10 (some ⟨b, 0, none⟩) 1 (.inl (by decide)) h hl fxA_fit
  have e1 : fxA.length = 1 := rfl
  rw [e1] at H
  refine H.mono ?_
  rintro e w' ⟨d, a, c, rfl, hd, hb, hr⟩
  rw [fxA_run] at hr ⊢
  simp only [Option.getD_some] at hr
  subst hr
  exact ⟨a, c, rfl, hd, hb⟩
theorem fx_run0 (x : Fin) (hx : x.args.length ≤ 9223372036854775807) (E : Int) (hr : ∃ o st, run (code1 1 [] x) [] 10 = ⟨E, o, none, st⟩) (b : Nat) (w : World) (h : CodeAt w (.slice (some ⟨b, 0, none⟩) 1 1) (code1 1 [] x)) : Calls Try.prog 11 #[.agg #[.slice (some ⟨b, 0, none⟩) 1 1], .string ⟨#[]⟩, .int .i64 10] w
    fun e w' => ∃ o k i t la ln lc n, e = .returned (outV E o k i t (.slice la ln lc) false n) ∧ Below w.heap.size w w' := by
  obtain ⟨o, st, hr⟩ := hr
  have hl : (code1 1 [] x).length ≤ 1000000000000000 := by simp [code1]
  have H := Run_any [] 10 (some ⟨b, 0, none⟩) 1 (.inl (by decide)) h hl (fx0_fit x hx)
  have e1 : (code1 1 [] x).length = 1 := rfl
  rw [e1] at H
  refine H.mono ?_
  rintro e w' ⟨d, a, c, rfl, hd, hb, hd2⟩
  rw [hr]
  exact ⟨o, _, _, _, _, _, _, st, rfl, hb⟩
theorem chk_nil (w : World) : Calls Try.prog 9 #[.agg #[.slice none 0 0]] w fun e w' => e = .returned (.int .i64 150) ∧ Below w.heap.size w w' :=
  Check_any (c := []) none 0 (row_nil _ _ _) (by decide) (fun p hp => by simp at hp)
abbrev FxS (w : World) (b1 b2 b3 : Nat) (lv : Value) : Prop := w.cell? ⟨b1, 0, none⟩ = some (.int .i64 0) ∧ w.cell? ⟨b1, 6, none⟩ = some (.bool true) ∧ w.cell? ⟨b1, 2, none⟩ = some (.int .i64 1) ∧ w.cell? ⟨b1, 3, none⟩ = some (.int .i64 5) ∧ w.cell? ⟨b1, 4, none⟩ = some (.string ⟨#[]⟩) ∧ w.cell? ⟨b1, 5, none⟩ = some lv ∧ w.cell? ⟨b1, 7, none⟩ = some (.int .i64 2) ∧ w.cell? ⟨b2, 0, none⟩ = some (.int .i64 90) ∧ w.cell? ⟨b3, 0, none⟩ = some (.int .i64 93)
theorem FxS.bel {w w' : World} {b1 b2 b3 : Nat} {lv : Value} (h : FxS w b1 b2 b3 lv) (hb : Below w.heap.size w w') (h1 : b1 < w.heap.size ∧ b2 < w.heap.size ∧ b3 < w.heap.size) : FxS w' b1 b2 b3 lv := by
  obtain ⟨l1, l2, l3⟩ := h1
  obtain ⟨c0, c1, c2, c3, c4, c5, c6, c7, c8⟩ := h
  exact ⟨(cell_bel hb l1).trans c0, (cell_bel hb l1).trans c1, (cell_bel hb l1).trans c2, (cell_bel hb l1).trans c3, (cell_bel hb l1).trans c4, (cell_bel hb l1).trans c5, (cell_bel hb l1).trans c6, (cell_bel hb l2).trans c7, (cell_bel hb l3).trans c8⟩
set_option maxHeartbeats 8000000 in
theorem fixed_any (w : World) : Calls Try.prog 8 #[] w fun e w' => e = .returned (.bool true) ∧ Below w.heap.size w w' := by
  have HFXB : Hid (∃ o st, run (code1 1 [] ⟨3, 0, [], 0, 0, 0⟩) [] 10 = ⟨90, o, none, st⟩) := fxB_run
  have HFXC : Hid (∃ o st, run (code1 1 [] ⟨0, 0, [], 0, 0, 0⟩) [] 10 = ⟨93, o, none, st⟩) := fxC_run
  go_enter Try.func8, Try.ntmps8
  go_wp2_with fail
  with_reducible refine (lnum_any 5 _).mono ?_
  rintro e w1 ⟨rfl, hb1⟩
  have HB1 := Lib.hid hb1
  clear hb1
  go_wp2_with fail
  with_reducible refine (fx_oneA w1).mono ?_
  rintro e w2 ⟨b2, rfl, hc2, hb2⟩
  have HC2 := Lib.hid hc2
  have HB2 := Lib.hid (HB1.out.trans (hb2.mono HB1.out.size))
  clear hb2 hc2
  go_wp2_with fail
  with_reducible refine (fx_runA b2 w2 HC2.out).mono ?_
  rintro e w3 ⟨a3, c3, rfl, hd3, hb3⟩
  have HD3 := Lib.hid hd3
  have HB3 := Lib.hid (HB2.out.trans (hb3.mono HB2.out.size))
  clear hb3 hd3
  obtain ⟨w4, B4⟩ := boxed w3 #[.int .i64 0, .string ⟨#[]⟩, .int .i64 1, .int .i64 5, .string ⟨#[]⟩, .slice a3 0 c3, .bool true, .int .i64 2] 33
  have HX4 := Lib.hid B4
  have HQ4 := Lib.hid B4.below
  have hs4 := B4.size
  clear B4
  go_wp2_with fail
  rw [← HX4.out.eq]
  with_reducible refine (fx_one0 3 w4).mono ?_
  rintro e w5 ⟨b5, rfl, hc5, hb5⟩
  have HC5 := Lib.hid hc5
  have HQ5 := Lib.hid (HQ4.out.trans (hb5.mono HQ4.out.size))
  have HR5 := Lib.hid hb5
  have HL5 : Hid (w3.heap.size + 1 ≤ w5.heap.size) := by have := hb5.size; exact (by omega : w3.heap.size + 1 ≤ w5.heap.size)
  clear hc5 hb5
  go_wp2_with fail
  with_reducible refine (fx_run0 ⟨3, 0, [], 0, 0, 0⟩ (by decide) 90 HFXB.out b5 w5 HC5.out).mono ?_
  rintro e w6 ⟨o6, k6, i6, t6, la6, ln6, lc6, n6, rfl, hb6⟩
  have HQ6 := Lib.hid (HQ5.out.trans (hb6.mono HQ5.out.size))
  have HR6 := Lib.hid (HR5.out.trans (hb6.mono HR5.out.size))
  have HL6 : Hid (w3.heap.size + 1 ≤ w6.heap.size) := Nat.le_trans HL5.out hb6.size
  clear hb6
  obtain ⟨w7, B7⟩ := boxed w6 #[.int .i64 90, .string o6, .int .i64 k6, .int .i64 i6,   .string t6, .slice la6 ln6 lc6, .bool false, .int .i64 n6] 33
  have HX7 := Lib.hid B7
  have HQ7 := Lib.hid (HQ6.out.trans (B7.below.mono HQ6.out.size))
  have hs7 := B7.size
  clear B7
  go_wp2_with fail
  rw [← HX7.out.eq]
  with_reducible refine (fx_one0 0 w7).mono ?_
  rintro e w8 ⟨b8, rfl, hc8, hb8⟩
  have HC8 := Lib.hid hc8
  have HB8 := Lib.hid hb8
  clear hc8 hb8
  go_wp2_with fail
  with_reducible refine (fx_run0 ⟨0, 0, [], 0, 0, 0⟩ (by decide) 93 HFXC.out b8 w8 HC8.out).mono ?_
  rintro e w9 ⟨o9, k9, i9, t9, la9, ln9, lc9, n9, rfl, hb9⟩
  have HB9 := Lib.hid (HB8.out.trans (hb9.mono HB8.out.size))
  have HL9 : Hid (w6.heap.size + 1 ≤ w9.heap.size) := by have := HB9.out.size; exact (by omega : w6.heap.size + 1 ≤ w9.heap.size)
  clear hb9
  obtain ⟨w10, B10⟩ := boxed w9 #[.int .i64 93, .string o9, .int .i64 k9, .int .i64 i9,   .string t9, .slice la9 ln9 lc9, .bool false, .int .i64 n9] 33
  have HX10 := Lib.hid B10
  have HB10 := Lib.hid (HB9.out.trans (B10.below.mono HB9.out.size))
  have hs10 := B10.size
  clear B10
  have HQ10 := Lib.hid (HQ7.out.trans (HB10.out.mono HQ7.out.size))
  have HFS : Hid (FxS w10 w3.heap.size w6.heap.size w9.heap.size (.slice a3 0 c3)) := by
    have l6 := HL6.out
    have l9 := HL9.out
    have q1 : w10.heap[w3.heap.size]? = _ := (HX10.out.below.block _ (by omega)).trans ((HB9.out.block _ (by omega)).trans ((HX7.out.below.block _ (by omega)).trans ((HR6.out.block _ (by omega)).trans HX4.out.blk)))
    have q2 : w10.heap[w6.heap.size]? = _ := (HX10.out.below.block _ (by omega)).trans ((HB9.out.block _ (by omega)).trans HX7.out.blk)
    have q3 := HX10.out.blk
    exact ⟨cell_of_row _ _ 0 _ _ _ q1, cell_of_row _ _ 6 _ _ _ q1, cell_of_row _ _ 2 _ _ _ q1, cell_of_row _ _ 3 _ _ _ q1, cell_of_row _ _ 4 _ _ _ q1, cell_of_row _ _ 5 _ _ _ q1, cell_of_row _ _ 7 _ _ _ q1, cell_of_row _ _ 0 _ _ _ q2, cell_of_row _ _ 0 _ _ _ q3⟩
  have HL10 : Hid (w3.heap.size < w10.heap.size ∧ w6.heap.size < w10.heap.size ∧ w9.heap.size < w10.heap.size) := by
    have := HL6.out
    have := HL9.out
    exact ⟨by omega, by omega, by omega⟩
  have HSH : Hid (Dt.Short (.mk 1 5 ⟨#[]⟩ [])) := Dt.short_of (by simp [Dt.nodes, Dt.nodess])
  have HD10 : Hid (DtAt w10 (fun b => w2.heap.size ≤ b) (.agg #[.int .i64 1, .int .i64 5, .string ⟨#[]⟩, .slice a3 0 c3]) (.mk 1 5 ⟨#[]⟩ [])) := HD3.out.bel HQ10.out (Nat.le_refl _)
  have HB10w := Lib.hid (HB3.out.trans (HQ10.out.mono HB3.out.size))
  clear HX4 HX7 HQ4 HQ5 HR5 HQ6 HR6 HQ7 HB8 HB9 HB10 HQ10 HD3 HL5 HL6 HL9 HC2 HC5 HC8 HB1 HB2 HB3
  go_wp2_with fail
  rw [← HX10.out.eq]
  go_region_held3 (fun w' => w'.cell? ⟨w3.heap.size, 0, none⟩ = some (.int .i64 0) ∧ w'.cell? ⟨w3.heap.size, 6, none⟩ = some (.bool true) ∧ w'.cell? ⟨w3.heap.size, 2, none⟩ = some (.int .i64 1) ∧ w'.cell? ⟨w3.heap.size, 3, none⟩ = some (.int .i64 5) ∧ w'.cell? ⟨w3.heap.size, 4, none⟩ = some (.string ⟨#[]⟩) ∧ w'.cell? ⟨w3.heap.size, 5, none⟩ = some (.slice a3 0 c3) ∧ w'.cell? ⟨w3.heap.size, 7, none⟩ = some (.int .i64 2) ∧ w'.cell? ⟨w6.heap.size, 0, none⟩ = some (.int .i64 90) ∧ w'.cell? ⟨w9.heap.size, 0, none⟩ = some (.int .i64 93))
    (first | with_reducible exact HFS.out | with_reducible exact HF11.out | with_reducible exact HF12.out | with_reducible exact HF13.out | exact HFS.out)
    (first
      | (go_at_call 16; (with_reducible refine (lnum_any 5 _).mono ?_); rintro e w11 ⟨rfl, hb11⟩; have hb11' := (below_drewN (Below.refl w10.heap.size w10) 1).trans hb11; have HB11 := Lib.hid hb11'; have HF11 := Lib.hid (FxS.bel HFS.out hb11' HL10.out); clear hb11 hb11')
      | (go_at_call 15; (with_reducible refine (same_any (.mk 1 5 ⟨#[]⟩ []) (.mk 1 5 ⟨#[]⟩ []) _ _ w11 HSH.out HSH.out ((HD10.out.bel HB11.out (Nat.le_refl _)).mono fun _ _ _ => trivial) (.nil _ _ _)).mono ?_); rintro e w12 ⟨rfl, hb12⟩; have hb12' := HB11.out.trans (hb12.mono HB11.out.size); have HB12 := Lib.hid hb12'; have HF12 := Lib.hid (FxS.bel HFS.out hb12' HL10.out); clear hb12 hb12')
      | (go_at_call 9; (with_reducible refine (chk_nil w12).mono ?_); rintro e w13 ⟨rfl, hb13⟩; have hb13' := HB12.out.trans (hb13.mono HB12.out.size); have HB13 := Lib.hid hb13'; have HF13 := Lib.hid (FxS.bel HFS.out hb13' HL10.out); clear hb13 hb13'))
  go_wp2_with fail
  go_ret
  exact ⟨rfl, HB10w.out.trans (HB13.out.mono HB10w.out.size)⟩
end Vm
end Go.Proofs.Ytalfnaielhbocaa
namespace Go.Proofs.Ytalfnaielhbocaa
open Go.RowKit
set_option linter.unusedVariables false
set_option linter.unusedSimpArgs false
set_option maxRecDepth 100000
mutual
theorem Dt.same_self : ∀ d : Dt, Dt.same d d = true
  | .mk k i t l => by
    rw [Dt.same, Dt.sames_self l]
    simp
theorem Dt.sames_self : ∀ l : List Dt, Dt.sames l l = true
  | [] => by rw [Dt.sames]
  | x :: l => by
    rw [Dt.sames, Dt.same_self x, Dt.sames_self l]
    rfl
end
namespace Vm
theorem tellT_short {T : List Hp.Th} {v : Hp.V} : Dt.Short ((Hp.tellT T v).getD (.mk 0 0 ⟨#[]⟩ [])) := by
  apply Dt.short_of
  unfold Hp.tellT
  split
  · cases h : Hp.tellF T 200 v 0 200 with
    | none => simp [Dt.nodes, Dt.nodess]
    | some x =>
      have := Hp.tellF_fits T 200 v 0 200 x h
      simp
      omega
  · simp [Dt.nodes, Dt.nodess]
theorem run_short (c : Code) (inp : List UInt8) (steps : Int) : Dt.Short ((run c inp steps).shown.getD (.mk 0 0 ⟨#[]⟩ [])) := by
  have h0 : Dt.Short (.mk 0 0 ⟨#[]⟩ []) := Dt.short_of (by simp [Dt.nodes, Dt.nodess])
  unfold run
  split
  · exact h0
  · split
    · exact h0
    · dsimp only
      split
      · exact tellT_short
      · exact h0
set_option maxHeartbeats 4000000 in
theorem same9_yes (e : Int) (o : ByteArray) (d : Dt) (l1 l2 : Value) (ok : Bool) (st : Int) (w : World) (hs : Dt.Short d)
    (h1 : DtAt w (fun _ => True) (.agg #[.int .i64 d.kind, .int .i64 d.int, .string d.text, l1]) d) (h2 : DtAt w (fun _ => True) (.agg #[.int .i64 d.kind, .int .i64 d.int, .string d.text, l2]) d) :
    Calls Try.prog 12 #[.agg (outCells e o d l1 ok st), .agg (outCells e o d l2 ok st)] w fun e w' => e = .returned (.bool true) ∧ Below w.heap.size w w' := by
  unfold outCells
  have H1 := Lib.hid h1
  have H2 := Lib.hid h2
  have HS := Lib.hid hs
  clear h1 h2 hs
  obtain ⟨w1, B1⟩ := boxed w #[.int .i64 e, .string o, .int .i64 d.kind, .int .i64 d.int, .string d.text, l1, .bool ok, .int .i64 st] 33
  obtain ⟨w2, B2⟩ := boxed w1 #[.int .i64 e, .string o, .int .i64 d.kind, .int .i64 d.int, .string d.text, l2, .bool ok, .int .i64 st] 33
  have hs1 := B1.size
  have hB2 : Below w.heap.size w w2 := B1.below.trans (B2.below.mono B1.below.size)
  have HC0 := same_any d d _ _ w2 HS.out HS.out (H1.out.bel hB2 (Nat.le_refl _)) (H2.out.bel hB2 (Nat.le_refl _))
  rw [Dt.same_self] at HC0
  have HC := Lib.hid HC0
  have HB := Lib.hid hB2
  have HB1 := Lib.hid B1
  have HB2 := Lib.hid B2
  clear HC0 hB2 B1 B2
  go_enter Try.func12, Try.ntmps12
  go_wp2_with fail
  rw [← HB1.out.eq, ← HB2.out.eq]
  with_reducible refine HC.out.mono ?_
  rintro e w3 ⟨rfl, hb3⟩
  have HB3 := Lib.hid (HB.out.trans (hb3.mono HB.out.size))
  clear hb3
  go_wp2_with fail
  go_ret
  exact ⟨rfl, HB3.out⟩
end Vm
end Go.Proofs.Ytalfnaielhbocaa
namespace Go.Proofs.Ytalfnaielhbocaa
open Go.RowKit
set_option linter.unusedVariables false
set_option linter.unusedSimpArgs false
namespace Vm
theorem goN_zero (c : Code) (s : St) : go c 0 s = if s.e = 0 ∧ s.done = false then ({ s with e := 93 }, 0) else (s, 0) := rfl
theorem goN_succ (c : Code) (n : Nat) (s : St) : go c (n + 1) s = if s.e = 0 ∧ s.done = false then go c n (step c s) else (s, n + 1) := rfl
theorem go_le (c : Code) : ∀ (n : Nat) (s : St), (go c n s).2 ≤ n
  | 0, s => by rw [goN_zero]; split <;> exact Nat.le_refl _
  | n + 1, s => by
    rw [goN_succ]
    split
    · exact Nat.le_succ_of_le (go_le c n _)
    · exact Nat.le_refl _
theorem go_exact (c : Code) : ∀ (n : Nat) (s : St), (go c n s).1.e ≠ 93 → go c (n - (go c n s).2) s = ((go c n s).1, 0)
  | 0, s => by
    intro h
    rw [goN_zero] at h ⊢
    split
    · rename_i hr
      rw [if_pos hr] at h
      exact absurd rfl h
    · rename_i hr
      rw [Nat.sub_zero, goN_zero, if_neg hr]
  | n + 1, s => by
    intro h
    rw [goN_succ] at h ⊢
    by_cases hr : s.e = 0 ∧ s.done = false
    · rw [if_pos hr] at h ⊢
      have hl := go_le c n (step c s)
      have e : n + 1 - (go c n (step c s)).2 = (n - (go c n (step c s)).2) + 1 := by omega
      rw [e, goN_succ, if_pos hr]
      exact go_exact c n _ h
    · rw [if_neg hr, Nat.sub_self, goN_zero, if_neg hr]
theorem tell_out (s : St) (v : Hp.V) : (tell s v).out = s.out := by
  unfold tell
  split <;> rfl
theorem call_out (c : Code) (s : St) (v : Hp.V) (a : List Hp.V) : (call c s v a).out = s.out := by
  unfold call
  split
  · rfl
  · split
    · exact tell_out _ _
    · split
      · rfl
      · split <;> rfl
theorem prim_out (s : St) (p : ByteArray) (a : List Hp.V) : s.out <+: (prim s p a).2.out := by
  unfold prim
  split
  · split <;> exact List.prefix_refl _
  · split
    · dsimp only
      split
      · exact List.prefix_refl _
      · split
        · exact List.prefix_refl _
        · exact List.prefix_append _ _
    · split
      · exact List.prefix_refl _
      · split
        · exact List.prefix_refl _
        · split <;> exact List.prefix_refl _
theorem doI_out (s : St) (x : Ins) : s.out <+: (doI s x).out := by
  unfold doI
  split
  · exact List.prefix_refl _
  · split
    · exact List.prefix_refl _
    · split
      · exact List.prefix_refl _
      · split
        · exact List.prefix_refl _
        · split
          · split
            · exact List.prefix_refl _
            · split <;> exact List.prefix_refl _
          · split <;> exact prim_out _ _ _
theorem endB_out (c : Code) (s : St) (x : Fin) : (endB c s x).out = s.out := by
  unfold endB
  split
  · rfl
  · split
    · rfl
    · split
      · exact tell_out _ _
      · split
        · exact call_out _ _ _ _
        · split
          · exact call_out _ _ _ _
          · split
            · exact call_out _ _ _ _
            · exact call_out _ _ _ _
theorem step_out (c : Code) (s : St) : s.out <+: (step c s).out := by
  unfold step
  split
  · exact List.prefix_refl _
  · split
    · exact doI_out { s with pos := s.pos + 1 } _
    · rw [endB_out]
      exact List.prefix_refl _
theorem go_out (c : Code) : ∀ (n : Nat) (s : St), s.out <+: (go c n s).1.out
  | 0, s => by rw [goN_zero]; split <;> exact List.prefix_refl _
  | n + 1, s => by
    rw [goN_succ]
    split
    · exact (step_out c s).trans (go_out c n _)
    · exact List.prefix_refl _
theorem go_less (c : Code) : ∀ (k n : Nat) (s : St), k < n - (go c n s).2 → (go c k s).1.e = 93 ∧ (go c k s).2 = 0 ∧ (go c k s).1.out <+: (go c n s).1.out
  | k, 0, s => by intro h; omega
  | k, n + 1, s => by
    intro h
    by_cases hr : s.e = 0 ∧ s.done = false
    · have hg : go c (n + 1) s = go c n (step c s) := by rw [goN_succ, if_pos hr]
      rw [hg] at h ⊢
      have hl := go_le c n (step c s)
      cases k with
      | zero =>
        rw [goN_zero, if_pos hr]
        exact ⟨rfl, rfl, (step_out c s).trans (go_out c n _)⟩
      | succ k =>
        rw [goN_succ, if_pos hr]
        exact go_less c k n (step c s) (by omega)
    · rw [goN_succ, if_neg hr] at h
      simp at h
theorem chk_vals (c : Code) : chk c = 0 ∨ chk c = 150 ∨ chk c = 151 := by
  unfold chk
  split
  · exact .inr (.inr rfl)
  · cases c with
    | nil => exact .inr (.inl rfl)
    | cons p l =>
      dsimp only
      split
      · exact .inr (.inl rfl)
      · split
        · exact .inl rfl
        · exact .inr (.inl rfl)
theorem run_within (c : Code) (inp : List UInt8) (n : Nat) (h : n ≤ 1000000) : 0 ≤ (run c inp n).steps ∧ (run c inp n).steps ≤ n := by
  unfold run
  rw [if_neg (by omega)]
  split
  · exact ⟨Int.le_refl _, Int.natCast_nonneg _⟩
  · have := go_le c n (start c inp)
    rw [Int.toNat_natCast]
    dsimp only
    omega
theorem steps_law (c : Code) (inp : List UInt8) (h1 : (run c inp 2000).e ≠ 93) (h2 : (run c inp 2000).e ≠ 150) (h3 : (run c inp 2000).e ≠ 151) :
    run c inp (run c inp 2000).steps = run c inp 2000 ∧ ∀ less : Int, 0 ≤ less → less < (run c inp 2000).steps → (run c inp less).e = 93 ∧ (run c inp less).steps = less ∧ (run c inp less).out.data.toList <+: (run c inp 2000).out.data.toList := by
  have hc : chk c = 0 := by
    rcases chk_vals c with h | h | h
    · exact h
    · exfalso; apply h2; unfold run; rw [if_neg (by omega), if_pos (by omega)]; exact h
    · exfalso; apply h3; unfold run; rw [if_neg (by omega), if_pos (by omega)]; exact h
  have hrun : ∀ n : Int, 0 ≤ n → n ≤ 1000000 → run c inp n = ⟨(go c n.toNat (start c inp)).1.e, ⟨(go c n.toNat (start c inp)).1.out.toArray⟩, if (go c n.toNat (start c inp)).1.e = 0 then Hp.tellT (go c n.toNat (start c inp)).1.T (go c n.toNat (start c inp)).1.told else none, n - (go c n.toNat (start c inp)).2⟩ := fun n h0 h1 => by
    unfold run
    rw [if_neg (by omega), if_neg (fun h => h hc)]
  have e2 : (2000 : Int).toNat = 2000 := rfl
  have hA := hrun 2000 (by omega) (by omega)
  rw [e2] at hA
  have hle := go_le c 2000 (start c inp)
  have h93 : (go c 2000 (start c inp)).1.e ≠ 93 := by rw [hA] at h1; exact h1
  have hst : (run c inp 2000).steps = 2000 - ((go c 2000 (start c inp)).2 : Int) := by rw [hA]
  have hx := go_exact c 2000 (start c inp) h93
  have hn : (2000 - ((go c 2000 (start c inp)).2 : Int)).toNat = 2000 - (go c 2000 (start c inp)).2 := by omega
  refine ⟨?_, fun less h0 hl => ?_⟩
  · rw [hst, hrun _ (by omega) (by omega), hn, hx, hA]
    simp
  · rw [hst] at hl
    have hlt : less.toNat < 2000 - (go c 2000 (start c inp)).2 := by omega
    obtain ⟨g1, g2, g3⟩ := go_less c less.toNat 2000 (start c inp) hlt
    rw [hrun less h0 (by omega), hA]
    refine ⟨g1, ?_, ?_⟩
    · show less - ((go c less.toNat (start c inp)).2 : Int) = less
      rw [g2]; simp
    · exact g3
end Vm
end Go.Proofs.Ytalfnaielhbocaa
namespace Go.Proofs.Ytalfnaielhbocaa
open Go.RowKit
set_option linter.unusedVariables false
set_option linter.unusedSimpArgs false
set_option maxRecDepth 100000
namespace Vm
theorem as_list (s : ByteArray) : ∃ l : List UInt8, s = ⟨l.toArray⟩ := ⟨s.data.toList, by cases s; simp⟩
theorem prefix_extract {a d : ByteArray} (h : d.data.toList <+: a.data.toList) : a.extract 0 d.size = d ∧ d.size ≤ a.size := by
  obtain ⟨r, hr⟩ := h
  have hs : d.size ≤ a.size := by
    have := congrArg List.length hr
    simp only [List.length_append, Array.length_toList] at this
    show d.data.size ≤ a.data.size
    omega
  refine ⟨?_, hs⟩
  have e : (a.extract 0 d.size).data.toList = d.data.toList := by
    rw [Lib.extract_data, ← hr]
    have : d.size = d.data.toList.length := (Array.length_toList (xs := d.data)).symm
    rw [this]
    simp
  cases d
  generalize a.extract 0 _ = t at e
  cases t
  congr
  exact Array.toList_inj.1 e
structure LawIn (W : World) (al : Option Addr) (cl : Nat) (c : Code) : Prop where
  at' : CodeAt W (.slice al c.length cl) c
  len : c.length ≤ 1000000000000000
  fit : ∀ p ∈ c, PrcFit p
theorem LawIn.run {W w : World} {al : Option Addr} {cl : Nat} {c : Code} (h : LawIn W al cl c) (hb : Below W.heap.size W w) (l : List UInt8) (n : Int) (hn : n ≤ 800000 ∨ 1000000 < n) :
    Calls Try.prog 11 #[.agg #[.slice al c.length cl], .string ⟨l.toArray⟩, .int .i64 n] w (OutPost (run c l n) w) :=
  Run_any l n al cl hn (h.at'.bel hb) h.len h.fit
structure OutB (w : World) (g : Nat) (o : Out) (d : Dt) (lv : Value) : Prop where
  blk : w.heap[g]? = some (.cells (outCells o.e o.out d lv o.shown.isSome o.steps) 33 (0, 0))
  dt : DtAt w (fun _ => True) (.agg #[.int .i64 d.kind, .int .i64 d.int, .string d.text, lv]) d
theorem OutB.bel {w w' : World} {g : Nat} {o : Out} {d : Dt} {lv : Value} (h : OutB w g o d lv) (hb : Below w.heap.size w w') : OutB w' g o d lv :=
  ⟨(hb.block g (Array.getElem?_eq_some_iff.1 h.blk).1).trans h.blk, h.dt.bel hb (Nat.le_refl _)⟩
theorem OutB.lt {w : World} {g : Nat} {o : Out} {d : Dt} {lv : Value} (h : OutB w g o d lv) : g < w.heap.size := (Array.getElem?_eq_some_iff.1 h.blk).1
theorem OutB.c {w : World} {g : Nat} {o : Out} {d : Dt} {lv : Value} (h : OutB w g o d lv) : Res8 w g (.int .i64 o.e) (.string o.out) (.int .i64 d.kind) (.int .i64 d.int) (.string d.text) lv (.bool o.shown.isSome) (.int .i64 o.steps) := Res8.of h.blk
set_option maxHeartbeats 8000000 in
theorem steps_walk (al : Option Addr) (n cl : Nat) (inp : ByteArray) (less : Int) (W : World) (h : ∃ c : Code, c.length = n ∧ CodeAt W (.slice al c.length cl) c ∧ c.length ≤ 1000000000000000 ∧ ∀ p ∈ c, PrcFit p) :
    Calls Try.prog 4 #[.agg #[.slice al n cl], .string inp, .int .i64 less] W fun e w' => e = .returned (.bool true) ∧ Below W.heap.size W w' := by
  obtain ⟨c, rfl, h1, h2, h3⟩ := h
  obtain ⟨l, rfl⟩ := as_list inp
  have HI : Hid (LawIn W al cl c) := ⟨h1, h2, h3⟩
  clear h1 h2 h3
  obtain ⟨o, ho⟩ : ∃ o, o = run c l 2000 := ⟨_, rfl⟩
  have HO := Lib.hid ho
  have hst := run_within c l 2000 (by omega)
  rw [show ((2000 : Nat) : Int) = 2000 from rfl, ← ho] at hst
  obtain ⟨w1, B1⟩ := boxed W #[.slice al c.length cl] 24
  have HB1 := Lib.hid B1
  have hs1 := B1.size
  have HCB : Hid (w1.heap[W.heap.size]? = some (.cells #[.slice al c.length cl] 24 (0, 0))) := B1.blk
  have c0 := cell_of_row w1 W.heap.size 0 _ _ _ B1.blk
  simp only [List.getElem?_toArray, List.getElem?_cons_zero] at c0
  clear B1 ho
  go_enter Try.func4, Try.ntmps4
  go_wp2_with fail
  rw [← HB1.out.eq]
  with_reducible refine (HI.out.run HB1.out.below l 2000 (.inl (by decide))).mono ?_
  rintro e w2 ⟨d, da, dc, rfl, hd, hb2, hdo⟩
  rw [← HO.out] at hdo ⊢
  obtain ⟨w3, B3⟩ := boxed w2 (outCells o.e o.out d (.slice da d.list.length dc) o.shown.isSome o.steps) 33
  have HX3 := Lib.hid B3
  have HB3 := Lib.hid (HB1.out.below.trans ((hb2.trans (B3.below.mono hb2.size)).mono HB1.out.below.size))
  have HOB : Hid (OutB w3 w2.heap.size o d (.slice da d.list.length dc)) := ⟨B3.blk, (hd.mono fun _ _ _ => trivial).bel B3.below (Nat.le_refl _)⟩
  have HCB3 : Hid (w3.heap[W.heap.size]? = some (.cells #[.slice al c.length cl] 24 (0, 0))) := ((hb2.trans (B3.below.mono hb2.size)).block _ (by omega)).trans HCB.out
  have HDO := Lib.hid hdo
  clear hb2 B3 hd hdo c0
  unfold outCells at HX3
  unfold outCells
  go_wp2_with fail
  rw [← HX3.out.eq]
  with_reducible refine (fixed_any w3).mono ?_
  rintro e w4 ⟨rfl, hb4⟩
  have HOB4 := Lib.hid (HOB.out.bel hb4)
  have HB4 := Lib.hid (HB3.out.trans (hb4.mono HB3.out.size))
  have HCB4 : Hid (w4.heap[W.heap.size]? = some (.cells #[.slice al c.length cl] 24 (0, 0))) := (hb4.block _ (Array.getElem?_eq_some_iff.1 HCB3.out).1).trans HCB3.out
  obtain ⟨z0, z1, z2, z3, z4, z5, z6, z7, _⟩ := HOB4.out.c
  have c0 := cell_of_row w4 W.heap.size 0 _ _ _ HCB4.out
  simp only [List.getElem?_toArray, List.getElem?_cons_zero] at c0
  have g1 : decide (o.steps < 0) = false := decide_eq_false (by omega)
  have g2 : decide ((2000 : Int) < o.steps) = false := decide_eq_false (by omega)
  have l0 : W.heap.size < w4.heap.size := (Array.getElem?_eq_some_iff.1 HCB4.out).1
  have l1 := HOB4.out.lt
  clear hb4
  by_cases k93 : o.e = 93
  · have g3 : (o.e == 93) = true := by rw [k93]; rfl
    go_wp2_with fail
    go_ret
    exact ⟨rfl, HB4.out⟩
  have g3 : (o.e == 93) = false := beq_eq_false_iff_ne.2 k93
  by_cases k150 : o.e = 150
  · have g4 : (o.e == 150) = true := by rw [k150]; rfl
    go_wp2_with fail
    go_ret
    exact ⟨rfl, HB4.out⟩
  have g4 : (o.e == 150) = false := beq_eq_false_iff_ne.2 k150
  by_cases k151 : o.e = 151
  · have g5 : (o.e == 151) = true := by rw [k151]; rfl
    go_wp2_with fail
    go_ret
    exact ⟨rfl, HB4.out⟩
  have g5 : (o.e == 151) = false := beq_eq_false_iff_ne.2 k151
  have hlaw := steps_law c l (by rw [← HO.out]; exact k93) (by rw [← HO.out]; exact k150) (by rw [← HO.out]; exact k151)
  rw [← HO.out] at hlaw
  have HLAW := Lib.hid hlaw
  clear hlaw
  go_wp2_with fail
  with_reducible refine (HI.out.run HB4.out l o.steps (.inl (by omega))).mono ?_
  rintro e w5 ⟨d5, da5, dc5, rfl, hd5, hb5, hdo5⟩
  rw [HLAW.out.1] at hdo5 ⊢
  have hdd : d5 = d := hdo5.trans HDO.out.symm
  subst hdd
  unfold outCells
  obtain ⟨w6, B6⟩ := boxed w5 (outCells o.e o.out d5 (.slice da5 d5.list.length dc5) o.shown.isSome o.steps) 33
  have HX6 := Lib.hid B6
  have hb56 := hb5.trans (B6.below.mono hb5.size)
  have HOB6 := Lib.hid (HOB4.out.bel hb56)
  have HOC6 : Hid (OutB w6 w5.heap.size o d5 (.slice da5 d5.list.length dc5)) := ⟨B6.blk, (hd5.mono fun _ _ _ => trivial).bel B6.below (Nat.le_refl _)⟩
  have HB6 := Lib.hid (HB4.out.trans (hb56.mono HB4.out.size))
  have HCB6 : Hid (w6.heap[W.heap.size]? = some (.cells #[.slice al c.length cl] 24 (0, 0))) := (hb56.block _ l0).trans HCB4.out
  clear hb5 B6 hb56 hd5 hdo5 z0 z1 z2 z3 z4 z5 z6 z7 c0 l0 l1
  obtain ⟨z0, z1, z2, z3, z4, z5, z6, z7, _⟩ := HOB6.out.c
  obtain ⟨y0, y1, y2, y3, y4, y5, y6, y7, _⟩ := HOC6.out.c
  have c0 := cell_of_row w6 W.heap.size 0 _ _ _ HCB6.out
  simp only [List.getElem?_toArray, List.getElem?_cons_zero] at c0
  have l0 : W.heap.size < w6.heap.size := (Array.getElem?_eq_some_iff.1 HCB6.out).1
  have l1 := HOB6.out.lt
  have l2 := HOC6.out.lt
  have HSH : Hid (Dt.Short d5) := by rw [HDO.out, HO.out]; exact run_short c l 2000
  have HSM := Lib.hid (same9_yes o.e o.out d5 _ _ o.shown.isSome o.steps w6 HSH.out HOB6.out.dt HOC6.out.dt)
  unfold outCells at HSM
  unfold outCells at HX6
  rw [HX6.out.eq] at z0 z1 z2 z3 z4 z5 z6 z7 y0 y1 y2 y3 y4 y5 y6 y7 c0
  go_wp2_with fail
  rw [← HX6.out.eq]
  with_reducible refine HSM.out.mono ?_
  rintro e w7 ⟨rfl, hb7⟩
  have HOB7 := Lib.hid (HOB6.out.bel hb7)
  have HB7 := Lib.hid (HB6.out.trans (hb7.mono HB6.out.size))
  have HCB7 : Hid (w7.heap[W.heap.size]? = some (.cells #[.slice al c.length cl] 24 (0, 0))) := (hb7.block _ l0).trans HCB6.out
  clear hb7 z0 z1 z2 z3 z4 z5 z6 z7 y0 y1 y2 y3 y4 y5 y6 y7 c0 l0 l1 l2
  obtain ⟨z0, z1, z2, z3, z4, z5, z6, z7, _⟩ := HOB7.out.c
  have c0 := cell_of_row w7 W.heap.size 0 _ _ _ HCB7.out
  simp only [List.getElem?_toArray, List.getElem?_cons_zero] at c0
  have l0 : W.heap.size < w7.heap.size := (Array.getElem?_eq_some_iff.1 HCB7.out).1
  have l1 := HOB7.out.lt
  by_cases k0 : less < 0
  · have g6 : decide (less < 0) = true := decide_eq_true k0
    go_wp2_with fail
    go_ret
    exact ⟨rfl, HB7.out⟩
  have g6 : decide (less < 0) = false := decide_eq_false k0
  by_cases k1 : o.steps ≤ less
  · have g7 : decide (o.steps ≤ less) = true := decide_eq_true k1
    go_wp2_with fail
    go_ret
    exact ⟨rfl, HB7.out⟩
  have g7 : decide (o.steps ≤ less) = false := decide_eq_false k1
  go_wp2_with fail
  with_reducible refine (HI.out.run HB7.out l less (.inl (by omega))).mono ?_
  rintro e w8 ⟨d8, da8, dc8, rfl, hd8, hb8, hdo8⟩
  obtain ⟨e1, e2, e3⟩ := HLAW.out.2 less (by omega) (by omega)
  obtain ⟨p, hp⟩ : ∃ p, p = run c l less := ⟨_, rfl⟩
  rw [← hp] at e1 e2 e3 ⊢
  clear hp hdo8
  obtain ⟨e4, e5⟩ := prefix_extract e3
  clear e3
  have f1 : Hid ((p.e == 93) = true) := by rw [e1]; exact (rfl : (((93 : Int) == 93) = true))
  have f2 : Hid ((p.steps == less) = true) := by rw [e2]; exact beq_self_eq_true less
  have f3 : Hid (decide ((p.out.size : Int) ≤ o.out.size) = true) := decide_eq_true (by omega)
  have f4 : Hid (((o.out.extract 0 p.out.size).toList == p.out.toList) = true) := by rw [e4]; exact beq_self_eq_true p.out.toList
  have f5 : Hid ((p.out.size : Int) ≤ o.out.size) := (by omega : (p.out.size : Int) ≤ o.out.size)
  clear e1 e2 e4 e5
  unfold outCells
  obtain ⟨w9, B9⟩ := boxed w8 (outCells p.e p.out d8 (.slice da8 d8.list.length dc8) p.shown.isSome p.steps) 33
  have HX9 := Lib.hid B9
  have hb89 := hb8.trans (B9.below.mono hb8.size)
  have HOB9 := Lib.hid (HOB7.out.bel hb89)
  have HOC9 : Hid (OutB w9 w8.heap.size p d8 (.slice da8 d8.list.length dc8)) := ⟨B9.blk, (hd8.mono fun _ _ _ => trivial).bel B9.below (Nat.le_refl _)⟩
  have HB9 := Lib.hid (HB7.out.trans (hb89.mono HB7.out.size))
  clear hb8 B9 hb89 hd8 z0 z1 z2 z3 z4 z5 z6 z7 c0 l0 l1
  obtain ⟨z0, z1, z2, z3, z4, z5, z6, z7, _⟩ := HOB9.out.c
  obtain ⟨y0, y1, y2, y3, y4, y5, y6, y7, _⟩ := HOC9.out.c
  have l1 := HOB9.out.lt
  have l2 := HOC9.out.lt
  unfold outCells at HX9
  go_wp2_with fail
  rw [← HX9.out.eq]
  have g8 := f1.out
  have g9 := f2.out
  have g10 := f3.out
  have g11 := f4.out
  have g12 := f5.out
  have g13 : (0 : Int) ≤ p.out.size := by omega
  go_quiet (fail)
  go_wp2_with fail
  go_ret
  exact ⟨rfl, below_drewN HB9.out _⟩
end Vm
end Go.Proofs.Ytalfnaielhbocaa
