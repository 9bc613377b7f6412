/- The assembler's put. -/
import Derived.Test.YtbcpflogkniojaaQAsmLay
import Derived.Test.YtbcpflogkniojaaQAsmB
import Derived.Deep.AppendLies
namespace Go.Proofs.Ytbcpflogkniojaa
open Go.RowKit
set_option linter.unusedVariables false
set_option linter.unusedSimpArgs false
theorem infoU : (Try.prog.info? 38).map (fun i => (i.zero, i.size, i.bytes)) = some (some (.int .u32 0), 1, 4) := by kernel_rfl
section
variable {B : Nat} {w : World} {g lb pb mb : Nat} {L : List (Int × Value)} {vc : Value} {al : Option Addr} {cl : Nat} {l : List As.It} {bs : List Bool} {ps : List Nat} {code : List Int}
/-- The words have grown. -/
theorem ASt.setCode {w1 : World} {vc' : Value} {x : Int} (h : ASt B w g lb pb mb L (.slice al l.length cl) vc l bs ps code) (o : Obj) (hB : B ≤ w.heap.size) (hg : (w.alloc o).grownBy w1 vc.ownBlock)
    (hown : w1.ownsRow B 38 1 vc' (code.length + 1) (code.map (Value.int .u32) ++ [.int .u32 x])) (hob : ∀ k, vc'.ownBlock = some k → vc.ownBlock = some k ∨ w.heap.size ≤ k) :
    ASt B (w1.setCell ⟨g, 4, none⟩ vc') g lb pb mb L (.slice al l.length cl) vc' l bs ps (code ++ [x]) := by
  obtain ⟨n1, n2, n3, n4, n5, n6⟩ := h.ne
  obtain ⟨m1, m2, m3, m4⟩ := h.ne2
  obtain ⟨q1, q2, q3, q4⟩ := h.base
  obtain ⟨l1, l2, l3⟩ := h.lt
  have l4 := h.map.lt
  have old : ∀ k, k < w.heap.size → vc.ownBlock ≠ some k → w1.heap[k]? = w.heap[k]? := fun k hk hne => by
    rw [hg.block k (by simp; omega) (fun e => hne e.symm)]
    exact heap_alloc_old w o hk
  have nn : ∀ k, k < w.heap.size → vc.ownBlock ≠ some k → vc'.ownBlock ≠ some k := fun k hk hne e => by
    rcases hob k e with h1 | h1
    · exact hne h1
    · omega
  have hblk := (old g l1 m1).trans h.blk
  refine ⟨?_, ?_, ?_, ?_, ?_, ?_, h.lbs, h.lps, h.base, h.ne, ⟨nn g l1 m1, nn lb l2 m2, nn pb l3 m3, nn mb l4 m4⟩, h.low⟩
  · rw [heap_setCell_same w1 g 4 _ _ _ hblk]
    rfl
  · have hi : ISl w1 (.slice al l.length cl) l := by
      obtain ⟨a, cap, hv, h0 | ⟨b, off, e1, e2, e3⟩⟩ := h.items
      · exact ⟨a, cap, hv, .inl h0⟩
      · by_cases hl : l = []
        · exact ⟨a, cap, hv, .inl hl⟩
        · cases hv
          have hlow : b < B := h.low ⟨b, off, none⟩ _ _ (by rw [e1]) hl
          have hne : vc.ownBlock ≠ some b := fun e => by have := (h.code.lt b e).1; omega
          exact ⟨_, _, rfl, .inr ⟨b, off, e1, by have := hg.size; simp at this; omega, fun j x hx => (e3 j x hx).of (fun k => World.cell?_of_block (old b e2 hne))⟩⟩
    exact hi.setCell (fun b off e hl => by have h3 := h.low ⟨b, off, none⟩ _ _ (by rw [e]) hl; show b ≠ g; have h4 : b < B := h3; omega) _
  · rw [heap_setCell_other _ _ _ _ (fun e => n1 e.symm)]; exact (old lb l2 m2).trans h.long
  · rw [heap_setCell_other _ _ _ _ (fun e => n2 e.symm)]; exact (old pb l3 m3).trans h.places
  · have := ownsRow_setCell_other (a := ⟨g, 4, none⟩) hown (nn g l1 m1) vc'
    simpa using this
  · exact h.map.kept ((heap_setCell_other _ _ _ _ (fun e => n3 e.symm)).trans (old mb l4 m4))
end
set_option maxHeartbeats 8000000 in
set_option maxRecDepth 100000 in
theorem put_any {B g lb pb mb : Nat} {L : List (Int × Value)} {al : Option Addr} {cl : Nat} {vc : Value} {l : List As.It} {bs : List Bool} {ps : List Nat} {code : List Int} (w : World) (h : ASt B w g lb pb mb L (.slice al l.length cl) vc l bs ps code) (hlen : code.length ≤ 1000000000000) (op a b c n : Int) :
    Calls Try.prog 32 #[.pointer (some ⟨g, 0, none⟩), .agg #[.int .i64 op, .int .i64 a, .int .i64 b, .int .i64 c, .int .i64 n]] w fun e w' => e = .returned (.tuple #[]) ∧ ∃ vc', ASt B w' g lb pb mb L (.slice al l.length cl) vc' l bs ps (code ++ [Rs.encW op a b c n]) ∧ Below B w w' := by
  obtain ⟨W, hW⟩ : ∃ W, Hid (Rs.encW op a b c n = W) := ⟨_, rfl⟩
  rw [hW.out]
  have H := Lib.hid h
  have HL := Lib.hid hlen
  have hbs : B ≤ w.heap.size := by have h1 := h.lt; have h2 := h.base; omega
  obtain ⟨i0, hi, hz0, hz1, hz2⟩ := info_parts infoU
  have HI := Lib.hid hi
  have HZ0 := Lib.hid hz0
  have HZ1 := Lib.hid hz1
  have HZ2 := Lib.hid hz2
  clear h hlen hi hz0 hz1 hz2
  go_enter Try.func32, Try.ntmps32
  go_wp2_with fail
  with_reducible refine (penc_at op a b c n W _ hW.out rfl _).mono ?_
  rintro e w1 ⟨rfl, hb1⟩
  have hb2 : Below w.heap.size w w1 := ((Below.refl _ _).alloc (Nat.le_refl _) _).trans (hb1.mono (by simp))
  have HA := Lib.hid (H.out.below hb2 (Nat.le_refl _))
  have HB := Lib.hid (hb2.mono hbs)
  have hs1 : B ≤ w1.heap.size := by have := hb2.size; omega
  have c4 := HA.out.c4
  have f4 := HA.out.fz 4
  have hg1 : g < w1.heap.size := HA.out.lt.1
  clear hb1 hb2
  go_wp2_with (first | (at_builtin; refine wpList_append_lies _ rfl (.tmp 15) (.tmp 17) 24 rfl B 38 i0 (.int .u32 0) 1 4 Try.underlying24 HI.out HZ0.out HZ1.out HZ2.out rfl (by decide) vc code.length (code.map (Value.int .u32)) rfl (HA.out.code.alloc _) ⟨w1.heap.size, 0, none⟩ 1 1 [.int .u32 W] rfl rfl (new_cells _ (heap_new (by simp))) (by simp [Value.oneCell']) (by decide) (by have := HL.out; simp only [maxLen]; omega) (by have := HL.out; omega) (by simp; omega) (w1.heap.size + 1) (by simp) ?_; intro g5 c5 w5 hown5 hgr5 hat5 hlt5; have HO := Lib.hid hown5; have HG := Lib.hid hgr5; have HT := Lib.hid hat5; have e4 : w5.cell? ⟨g, 4, none⟩ = some vc := (World.cell?_of_block (hgr5.block g (by simp; omega) (fun e => HA.out.ne2.1 e.symm))).trans ((World.cell?_of_block (heap_alloc_old w1 _ hg1)).trans c4); have k4 : w5.frozen? ⟨g, 4, none⟩ = false := (World.frozen?_of_block (hgr5.block g (by simp; omega) (fun e => HA.out.ne2.1 e.symm))).trans ((World.frozen?_of_block (heap_alloc_old w1 _ hg1)).trans f4); clear hown5 hgr5 hat5))
  go_end0
  refine ⟨rfl, _, HA.out.setCode _ hs1 HG.out HO.out (fun k hk => ?_), ((HB.out.alloc hs1 _).grown HG.out (by simp; omega) (fun q hq => (HA.out.code.lt q hq).1)).setCell (p := ⟨g, 4, none⟩) HA.out.base.1 _⟩
  simp only [Value.ownBlock] at hk
  injection hk with hk
  rcases HT.out with h1 | h1
  · exact .inl (h1.trans (by rw [hk]))
  · right; omega
end Go.Proofs.Ytbcpflogkniojaa
