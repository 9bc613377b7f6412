/- Steps of the machine: input, output, and the simple ones. -/
import Derived.Test.YtembhjfejhnpfaaRiscStepC
import Derived.Deep.RegionHeld3
import Derived.Deep.AppendLies
namespace Go.Proofs.Ytembhjfejhnpfaa
open Go.RowKit
set_option linter.unusedVariables false
set_option linter.unusedSimpArgs false
theorem grown_set_then {w w2 : World} {g j : Nat} {v : Value} (h : (w.setCell ⟨g, j, none⟩ v).grownBy w2 (some g)) : w.grownBy w2 (some g) :=
  ⟨h.os, h.tape, h.output, by have := h.size; simpa [World.setCell] using this, fun k hk hne => (h.block k (by simpa [World.setCell] using hk) hne).trans (heap_setCell_other w ⟨g, j, none⟩ k v (fun e => hne (by simp [e])))⟩
theorem tail_bytes (c : UInt8) (l : List UInt8) : (⟨(c :: l).toArray⟩ : ByteArray).extract 1 (l.length + 1) = ⟨l.toArray⟩ := by
  apply ByteArray.ext
  simp
theorem head_bytes (c : UInt8) (l : List UInt8) (h : 0 < (⟨(c :: l).toArray⟩ : ByteArray).size) : wrap64 ((((⟨(c :: l).toArray⟩ : ByteArray)[0]'h).toNat : Nat) : Int) = c.toNat := by
  have : ((⟨(c :: l).toArray⟩ : ByteArray)[0]'h) = c := rfl
  rw [this]
  exact IntWalk.wrap64_in _ (by have := c.toNat_lt; omega)
theorem simple_agg (p : Value) (op ra rb rc n a b : Int) (w : World) (h : 15 ≤ op ∧ op ≤ 21) (hn : op = 18 ∨ op = 19 → 0 ≤ n ∧ n < 64) :
    Calls Try.prog 31 #[p, .agg #[.int .i64 op, .int .i64 ra, .int .i64 rb, .int .i64 rc, .int .i64 n], .int .i64 a, .int .i64 b] w (SimpPost (Rs.simp op a b n) w) := simple_any p op ra rb rc n a b w h hn
theorem out_facts {B : Bd} {g T : Nat} {w w1 : World} {st : Int} {m : Rs.M} {mv ov : Value} {nq n : Nat} {xs : List Value} {cs : Array Value} {v0 : Value} {t : TypeId} {o : Obj} (h : MSt B w g T st m mv ov) (hne : ov.ownBlock ≠ some g) (hown : w.ownsRow B 5 1 ov n xs) (hlt : g < w.heap.size)
    (hgr : (((w.alloc (.cells (#[v0] ++ cs) t)).drewN nq).alloc o).grownBy w1 ov.ownBlock) :
    w1.cell? ⟨g, 3, none⟩ = some (.int .i64 m.steps) ∧ w1.cell? ⟨g, 4, none⟩ = some (.int .i64 m.pc) ∧ w1.cell? ⟨g, 39, none⟩ = some ov ∧ w1.frozen? ⟨g, 3, none⟩ = false ∧ w1.frozen? ⟨g, 4, none⟩ = false ∧ w1.frozen? ⟨g, 39, none⟩ = false ∧
    w1.cell? ⟨w.heap.size, 0, none⟩ = some v0 ∧ w.heap.size + 1 < w1.heap.size := by
  have H3 := ((h.alloc (.cells (#[v0] ++ cs) t)).drewN nq).alloc o
  have hk : w1.heap[g]? = _ := hgr.block g H3.lt (fun e => hne e.symm)
  refine ⟨(World.cell?_of_block (a := ⟨g, 3, none⟩) hk).trans H3.c3, (World.cell?_of_block (a := ⟨g, 4, none⟩) hk).trans H3.c4, (World.cell?_of_block (a := ⟨g, 39, none⟩) hk).trans H3.c39, (World.frozen?_of_block (a := ⟨g, 3, none⟩) hk).trans (H3.fz 3), (World.frozen?_of_block (a := ⟨g, 4, none⟩) hk).trans (H3.fz 4), (World.frozen?_of_block (a := ⟨g, 39, none⟩) hk).trans (H3.fz 39), ?_, ?_⟩
  · refine hgr.cell (a := ⟨w.heap.size, 0, none⟩) ?_ (by intro e; exact absurd (hown.lt _ e.symm).2 (Nat.lt_irrefl _))
    have h1 : (w.alloc (.cells (#[v0] ++ cs) t)).cell? ⟨w.heap.size, 0, none⟩ = some v0 := cell_new w (#[v0] ++ cs) 0 v0 (by rw [Array.getElem?_append_left (by simp)]; rfl)
    have h2 : ((w.alloc (.cells (#[v0] ++ cs) t)).drewN nq).cell? ⟨w.heap.size, 0, none⟩ = some v0 := h1
    exact (World.cell?_of_block (a := ⟨w.heap.size, 0, none⟩) (((Below.refl ((w.alloc (.cells (#[v0] ++ cs) t)).drewN nq).heap.size _).alloc (Nat.le_refl _) o).block w.heap.size (by rw [World.heap_drewN]; simp))).trans h2
  · have := hgr.size
    simp at this
    omega
theorem infoB : (Try.prog.info? 5).map (fun i => (i.zero, i.size, i.bytes)) = some (some (.int .u8 0), 1, 1) := by kernel_rfl

set_option maxHeartbeats 8000000 in
set_option maxRecDepth 100000 in
theorem step_in (B : Bd) (g : Nat) (st : Int) (m : Rs.M) (mv ov : Value)  (i j k : Nat) (n : Int) (w : World) (h : MSt B w g 62 st m mv ov) (hi : i < 32) (hj : j < 32) (hk : k < 32) (hn1 : -1048576 ≤ n) (hn2 : n ≤ 1048575) (hp1 : 0 ≤ m.pc) (hp2 : m.pc ≤ 1048576) (hs1 : 0 ≤ m.steps) (hs2 : m.steps ≤ 1000000000000) :
    Calls Try.prog 26 #[.pointer (some ⟨g, 0, none⟩), iv 30 i j k n] w (StepPost B g 62 st (Rs.exec 30 i j k n m) w) := by
  unfold iv
  have c1 := h.c1
  have c3 := h.c3
  have c4 := h.c4
  have f1 := h.fz 1
  have f3 := h.fz 3
  have f4 := h.fz 4
  have ci := h.cR hi
  have cj := h.cR hj
  have hlt := h.lt
  have hb := h.base
  obtain ⟨ra, hra⟩ : ∃ ra, Hid (m.regs.getD i 0 = ra) := ⟨_, rfl⟩
  obtain ⟨rb, hrb⟩ : ∃ rb, Hid (m.regs.getD j 0 = rb) := ⟨_, rfl⟩
  rw [hra.out] at ci
  rw [hrb.out] at cj
  have hRa : Hid (Rs.InR ra) := by unfold Hid; rw [← hra.out]; exact Rs.rget_range h.ok i
  have hRb : Hid (Rs.InR rb) := by unfold Hid; rw [← hrb.out]; exact Rs.rget_range h.ok j
  have hF : Rs.form 30 = 0 := rfl
  have c38 := h.c38
  have f38 := h.fz 38
  cases hi2 : m.inp with
  | nil =>
    rw [hi2] at c38
    have hex : Hid (Rs.exec 30 i j k n m = (Rs.adv (Rs.setReg m i (-1)) (m.pc + 1), 6)) := by
      unfold Hid Rs.exec Rs.rget
      simp only [Int.toNat_natCast, hra.out, hrb.out]
      simp [hi2]
    rw [hex.out]
    have HI := Lib.hid hi2
    have H := Lib.hid h
    clear h hi2
    go_enter Try.func26, Try.ntmps26
    go_wp2_with fail
    go_quiet (fail)
    go_wp2_with (first | (go_at_call 19; (with_reducible refine (form_any _ _).mono ?_); rintro e w' ⟨rfl, hw⟩; obtain rfl := hw) | (go_at_call 30; (with_reducible refine (taken_any _ _ _ _ (by omega)).mono ?_); rintro e w' ⟨rfl, hw⟩; obtain rfl := hw))
    (with_reducible refine (set_any B g st m _ ov i (-1) _ ((H.out.alloc _).drewN _) (by omega) (by unfold Rs.InR; omega)).mono ?_)
    rintro e w2 ⟨rfl, hM2, hg2⟩
    have hg2 : (w.alloc _).grownBy w2 (some g) := ⟨hg2.os, hg2.tape, hg2.output, hg2.size, hg2.block⟩
    have hx0 : w2.cell? ⟨w.heap.size, 0, none⟩ = some _ := hg2.cell (cell_new _ _ 0 _ rfl) (by intro e; injection e with e; simp at e; omega)
    have hx4 : w2.cell? ⟨w.heap.size, 4, none⟩ = some _ := hg2.cell (cell_new _ _ 4 _ rfl) (by intro e; injection e with e; simp at e; omega)
    have hb2 := Lib.hid ((((Below.refl B w).alloc (by omega) _)).grown hg2 (by simp; omega) (fun q hq => by injection hq with hq; omega))
    have hs3 : w.heap.size < w2.heap.size := by have := hg2.size; simp at this; omega
    have d4 := hM2.c4
    have d3 := hM2.c3
    have f4 := hM2.fz 4
    have f3 := hM2.fz 3
    rw [Rs.setReg_steps] at d3
    rw [Rs.setReg_pc] at d4
    have hM3 := Lib.hid hM2
    clear hg2 hM2
    go_wp2
    go_ret
    exact ⟨rfl, ⟨_, ov, hM3.out.adv _ _ (by rw [Rs.setReg_steps])⟩, (hb2.out.setCell hb _).setCell hb _, by simp [World.setCell]; omega⟩
  | cons c l =>
    rw [hi2] at c38
    have hex : Hid (Rs.exec 30 i j k n m = (Rs.adv (Rs.setReg { m with inp := l } i c.toNat) (m.pc + 1), 6)) := by
      unfold Hid Rs.exec Rs.rget
      simp only [Int.toNat_natCast, hra.out, hrb.out]
      simp [hi2]
    rw [hex.out]
    have HI := Lib.hid hi2
    have H := Lib.hid h
    clear h hi2
    go_enter Try.func26, Try.ntmps26
    go_wp2_with fail
    go_quiet (fail)
    go_wp2_with (first | (go_at_call 19; (with_reducible refine (form_any _ _).mono ?_); rintro e w' ⟨rfl, hw⟩; obtain rfl := hw) | (go_at_call 30; (with_reducible refine (taken_any _ _ _ _ (by omega)).mono ?_); rintro e w' ⟨rfl, hw⟩; obtain rfl := hw))
    rw [head_bytes, tail_bytes]
    (with_reducible refine (set_any B g st { m with inp := l } _ ov i c.toNat _ (((H.out.alloc _).drewN _).setInp l) (by omega) (Rs.InR.byte c)).mono ?_)
    rintro e w2 ⟨rfl, hM2, hg2⟩
    have hg2 := grown_set_then hg2
    have hg2 : (w.alloc _).grownBy w2 (some g) := ⟨hg2.os, hg2.tape, hg2.output, hg2.size, hg2.block⟩
    have hx0 : w2.cell? ⟨w.heap.size, 0, none⟩ = some _ := hg2.cell (cell_new _ _ 0 _ rfl) (by intro e; injection e with e; simp at e; omega)
    have hx4 : w2.cell? ⟨w.heap.size, 4, none⟩ = some _ := hg2.cell (cell_new _ _ 4 _ rfl) (by intro e; injection e with e; simp at e; omega)
    have hb2 := Lib.hid ((((Below.refl B w).alloc (by omega) _)).grown hg2 (by simp; omega) (fun q hq => by injection hq with hq; omega))
    have hs3 : w.heap.size < w2.heap.size := by have := hg2.size; simp at this; omega
    have d4 := hM2.c4
    have d3 := hM2.c3
    have f4 := hM2.fz 4
    have f3 := hM2.fz 3
    rw [Rs.setReg_steps] at d3
    rw [Rs.setReg_pc] at d4
    have hM3 := Lib.hid hM2
    clear hg2 hM2
    rw [show ({ m with inp := l } : Rs.M).steps = m.steps from rfl] at d3
    rw [show ({ m with inp := l } : Rs.M).pc = m.pc from rfl] at d4
    go_wp2
    go_ret
    exact ⟨rfl, ⟨_, ov, hM3.out.adv _ _ (by rw [Rs.setReg_steps])⟩, (hb2.out.setCell hb _).setCell hb _, by simp [World.setCell]; omega⟩

set_option maxHeartbeats 8000000 in
set_option maxRecDepth 100000 in
theorem step_out (B : Bd) (g : Nat) (st : Int) (m : Rs.M) (mv ov : Value) (ho : m.out.length ≤ 1000000000000) (i j k : Nat) (n : Int) (w : World) (h : MSt B w g 62 st m mv ov) (hi : i < 32) (hj : j < 32) (hk : k < 32) (hn1 : -1048576 ≤ n) (hn2 : n ≤ 1048575) (hp1 : 0 ≤ m.pc) (hp2 : m.pc ≤ 1048576) (hs1 : 0 ≤ m.steps) (hs2 : m.steps ≤ 1000000000000) :
    Calls Try.prog 26 #[.pointer (some ⟨g, 0, none⟩), iv 31 i j k n] w (StepPost B g 62 st (Rs.exec 31 i j k n m) w) := by
  unfold iv
  have c1 := h.c1
  have c3 := h.c3
  have c4 := h.c4
  have f1 := h.fz 1
  have f3 := h.fz 3
  have f4 := h.fz 4
  have ci := h.cR hi
  have cj := h.cR hj
  have hlt := h.lt
  have hb := h.base
  obtain ⟨ra, hra⟩ : ∃ ra, Hid (m.regs.getD i 0 = ra) := ⟨_, rfl⟩
  obtain ⟨rb, hrb⟩ : ∃ rb, Hid (m.regs.getD j 0 = rb) := ⟨_, rfl⟩
  rw [hra.out] at ci
  rw [hrb.out] at cj
  have hRa : Hid (Rs.InR ra) := by unfold Hid; rw [← hra.out]; exact Rs.rget_range h.ok i
  have hRb : Hid (Rs.InR rb) := by unfold Hid; rw [← hrb.out]; exact Rs.rget_range h.ok j
  have hF : Rs.form 31 = 0 := rfl
  have c39 := h.c39
  have f39 := h.fz 39
  rcases (by omega : ra < 0 ∨ (0 ≤ ra ∧ 255 < ra) ∨ (0 ≤ ra ∧ ra ≤ 255)) with q1 | ⟨q1, q2⟩ | ⟨q1, q2⟩
  case inr.inr =>
    obtain ⟨c, hc⟩ : ∃ c : UInt8, Hid (ra = c.toNat ∧ UInt8.ofNat ra.toNat = c) := ⟨UInt8.ofNat ra.toNat, by unfold Hid; refine ⟨?_, rfl⟩; rw [UInt8.toNat_ofNat']; omega⟩
    have hex : Hid (Rs.exec 31 i j k n m = (Rs.adv { m with out := m.out ++ [c] } (m.pc + 1), 6)) := by
      unfold Hid Rs.exec Rs.rget
      simp only [Int.toNat_natCast, hra.out, hrb.out]
      have hr : ¬ (ra < 0 ∨ 255 < ra) := by omega
      simp [hr, hc.out.2]
    rw [hex.out]
    obtain ⟨i0, ha, hz0, hz1, hz2⟩ := info_parts infoB
    have HA := Lib.hid ha
    have HZ0 := Lib.hid hz0
    have HZ1 := Lib.hid hz1
    have HZ2 := Lib.hid hz2
    clear ha hz0 hz1 hz2
    have hne2 := Lib.hid h.ne2
    have hown := Lib.hid h.out
    have HO := Lib.hid ho
    have H := Lib.hid h
    clear h ho
    go_enter Try.func26, Try.ntmps26
    go_wp2_with fail
    go_quiet (fail)
    go_wp2_with (first | (at_builtin; refine wpList_append_lies _ rfl (.tmp 225) (.tmp 228) 60 rfl B 5 i0 (.int .u8 0) 1 1 Try.underlying60 HA.out HZ0.out HZ1.out HZ2.out rfl (by decide) ov m.out.length (m.out.map fun x => Value.int .u8 x.toNat) rfl ?a2 ⟨w.heap.size + 1, 0, none⟩ 1 1 [.int .u8 ra] rfl rfl ?a3 ?a4 ?a5 ?a6 ?a7 ?a8 (w.heap.size + 2) ?a9 ?_; (case a2 => exact (own_drewN (hown.out.alloc _) _).alloc _); (case a3 => exact new_cells _ (heap_new (by simp))); (case a4 => simp [Value.oneCell']); (case a5 => decide); (case a6 => (have := HO.out; simp only [maxLen]; omega)); (case a7 => (have := HO.out; omega)); (case a8 => (simp; omega)); (case a9 => simp); intro g2 cap2 w1 hown2 hgr hat hlt2; have HGR := Lib.hid hgr; have HAT := Lib.hid hat; have HOWN2 := Lib.hid hown2; clear hgr hat hown2; obtain ⟨e3, e4, e39, f3, f4, f39, hx0, hs1'⟩ := out_facts (cs := #[.int .i64 i, .int .i64 j, .int .i64 k, .int .i64 n]) H.out hne2.out hown.out hlt HGR.out) | (go_at_call 19; (with_reducible refine (form_any _ _).mono ?_); rintro e w' ⟨rfl, hw⟩; obtain rfl := hw) | (go_at_call 30; (with_reducible refine (taken_any _ _ _ _ (by omega)).mono ?_); rintro e w' ⟨rfl, hw⟩; obtain rfl := hw))
    go_ret
    have hm4 : MSt B (w1.setCell ⟨g, 39, none⟩ (.slice (some ⟨g2, 0, none⟩) (m.out.length + 1) cap2)) g 62 st { m with out := m.out ++ [c] } mv (.slice (some ⟨g2, 0, none⟩) (m.out.length + 1) cap2) := by
      have hgr := HGR.out
      have hown2 := HOWN2.out
      rw [hc.out.1] at hgr hown2
      refine ((H.out.alloc _).drewN nq).setOut _ (by simp; omega) hgr hown2 (fun k hk => ?_)
      simp only [Value.ownBlock] at hk
      injection hk with hk
      rcases HAT.out with h1 | h1
      · exact .inl (h1.trans (by rw [hk]))
      · right; simp; omega
    exact ⟨rfl, ⟨mv, _, hm4.adv _ _ rfl⟩, ((((((below_drewN ((Below.refl _ _).alloc (by omega) _) nq).alloc (by simp; omega) _).grown HGR.out (by simp; omega) (fun k hk => (hown.out.lt k hk).1))).setCell hb _).setCell hb _).setCell hb _, by simp [World.setCell]; omega⟩
  all_goals
    have hex : Hid (Rs.exec 31 i j k n m = (m, 5)) := by
      unfold Hid Rs.exec Rs.rget
      simp only [Int.toNat_natCast, hra.out, hrb.out]
      have hr : ra < 0 ∨ 255 < ra := by omega
      simp [hr]
    rw [hex.out]
    have H := Lib.hid h
    clear h
    go_enter Try.func26, Try.ntmps26
    go_wp2_with fail
    go_quiet (fail)
    go_wp2_with (first | (go_at_call 19; (with_reducible refine (form_any _ _).mono ?_); rintro e w' ⟨rfl, hw⟩; obtain rfl := hw) | (go_at_call 30; (with_reducible refine (taken_any _ _ _ _ (by omega)).mono ?_); rintro e w' ⟨rfl, hw⟩; obtain rfl := hw))
    go_ret
    exact ⟨rfl, ⟨_, ov, (H.out.alloc _).drewN _⟩, below_drewN ((Below.refl _ _).alloc (by omega) _) _, by simp⟩
theorem form_simp {op : Int} (h1 : 15 ≤ op) (h2 : op ≤ 21) : Rs.form op ≠ 1 ∧ Rs.form op ≠ 4 := by
  unfold Rs.form
  rw [if_neg (by omega), if_neg (by omega)]
  split
  · omega
  · rw [if_pos (by omega)]; omega

set_option maxHeartbeats 8000000 in
set_option maxRecDepth 100000 in
theorem step_simple (B : Bd) (g : Nat) (st : Int) (m : Rs.M) (mv ov : Value) (op : Int) (o1 : 15 ≤ op) (o2 : op ≤ 21) (i j k : Nat) (n : Int) (w : World) (h : MSt B w g 62 st m mv ov) (hi : i < 32) (hj : j < 32) (hk : k < 32) (hn : op = 18 ∨ op = 19 → 0 ≤ n ∧ n < 64) (hn1 : -1048576 ≤ n) (hn2 : n ≤ 1048575) (hp1 : 0 ≤ m.pc) (hp2 : m.pc ≤ 1048576) (hs1 : 0 ≤ m.steps) (hs2 : m.steps ≤ 1000000000000) :
    Calls Try.prog 26 #[.pointer (some ⟨g, 0, none⟩), iv op i j k n] w (StepPost B g 62 st (Rs.exec op i j k n m) w) := by
  unfold iv
  have c1 := h.c1
  have c3 := h.c3
  have c4 := h.c4
  have f1 := h.fz 1
  have f3 := h.fz 3
  have f4 := h.fz 4
  have ci := h.cR hi
  have cj := h.cR hj
  have hlt := h.lt
  have hb := h.base
  obtain ⟨ra, hra⟩ : ∃ ra, Hid (m.regs.getD i 0 = ra) := ⟨_, rfl⟩
  obtain ⟨rb, hrb⟩ : ∃ rb, Hid (m.regs.getD j 0 = rb) := ⟨_, rfl⟩
  rw [hra.out] at ci
  rw [hrb.out] at cj
  have hRa : Hid (Rs.InR ra) := by unfold Hid; rw [← hra.out]; exact Rs.rget_range h.ok i
  have hRb : Hid (Rs.InR rb) := by unfold Hid; rw [← hrb.out]; exact Rs.rget_range h.ok j
  have hF : Rs.form op ≠ 1 ∧ Rs.form op ≠ 4 := form_simp o1 o2
  obtain ⟨fo, hfo⟩ : ∃ fo, Rs.form op = fo := ⟨_, rfl⟩
  rw [hfo] at hF
  have hF1 : (fo == 1) = false := by rw [beq_eq_false_iff_ne]; exact hF.1
  have hF4 : (fo == 4) = false := by rw [beq_eq_false_iff_ne]; exact hF.2
  clear hF
  have hex : Hid (Rs.exec op i j k n m = (Rs.adv (Rs.setReg m i (Rs.simp op ra rb n)) (m.pc + 1), 6)) := by
    unfold Hid Rs.exec Rs.rget
    simp only [Int.toNat_natCast, hra.out, hrb.out]
    rw [if_neg (by omega), if_neg (by omega), if_neg (by omega), if_neg (by omega), if_neg (by omega), if_neg (by omega), if_neg (by omega), if_neg (by omega), if_neg (by omega)]
  rw [hex.out]
  have hA : Hid (Rs.InR (Rs.simp op ra rb n)) := Rs.simp_range hRb.out (by unfold Rs.InR; omega)
  have HN := Lib.hid hn
  have z0 : (op == 0) = false := by rw [beq_eq_false_iff_ne]; omega
  have z22 : (op == 22) = false := by rw [beq_eq_false_iff_ne]; omega
  have z23 : (op == 23) = false := by rw [beq_eq_false_iff_ne]; omega
  have z28 : (op == 28) = false := by rw [beq_eq_false_iff_ne]; omega
  have z29 : (op == 29) = false := by rw [beq_eq_false_iff_ne]; omega
  have z30 : (op == 30) = false := by rw [beq_eq_false_iff_ne]; omega
  have z31 : (op == 31) = false := by rw [beq_eq_false_iff_ne]; omega
  have H := Lib.hid h
  clear h hn
  go_enter Try.func26, Try.ntmps26
  go_wp2_with fail
  go_quiet (fail)
  go_wp2_with (first | (go_at_call 19; (with_reducible refine (form_any _ _).mono ?_); rintro e w' ⟨rfl, hw⟩; obtain rfl := hw) | (go_at_call 30; (with_reducible refine (taken_any _ _ _ _ (by omega)).mono ?_); rintro e w' ⟨rfl, hw⟩; obtain rfl := hw))
  go_region_held3 (fun w' => w'.cell? ⟨w.heap.size, 0, none⟩ = some (.int .i64 op) ∧ w'.cell? ⟨w.heap.size, 1, none⟩ = some (.int .i64 i) ∧ w'.cell? ⟨w.heap.size, 2, none⟩ = some (.int .i64 j) ∧ w'.cell? ⟨w.heap.size, 3, none⟩ = some (.int .i64 k) ∧ w'.cell? ⟨w.heap.size, 4, none⟩ = some (.int .i64 n)) (first | go_keep | exact ⟨((hb3.cell (p := ⟨w.heap.size, 0, none⟩) (by simp)).trans (by go_simp)), ((hb3.cell (p := ⟨w.heap.size, 1, none⟩) (by simp)).trans (by go_simp)), ((hb3.cell (p := ⟨w.heap.size, 2, none⟩) (by simp)).trans (by go_simp)), ((hb3.cell (p := ⟨w.heap.size, 3, none⟩) (by simp)).trans (by go_simp)), ((hb3.cell (p := ⟨w.heap.size, 4, none⟩) (by simp)).trans (by go_simp))⟩ | exact ⟨hg2.cell ((hb3.cell (p := ⟨w.heap.size, 0, none⟩) (by simp)).trans (by go_simp)) (by intro e; injection e with e; simp at e; omega), hg2.cell ((hb3.cell (p := ⟨w.heap.size, 1, none⟩) (by simp)).trans (by go_simp)) (by intro e; injection e with e; simp at e; omega), hg2.cell ((hb3.cell (p := ⟨w.heap.size, 2, none⟩) (by simp)).trans (by go_simp)) (by intro e; injection e with e; simp at e; omega), hg2.cell ((hb3.cell (p := ⟨w.heap.size, 3, none⟩) (by simp)).trans (by go_simp)) (by intro e; injection e with e; simp at e; omega), hg2.cell ((hb3.cell (p := ⟨w.heap.size, 4, none⟩) (by simp)).trans (by go_simp)) (by intro e; injection e with e; simp at e; omega)⟩) (first | (go_at_call 28; (with_reducible refine (set_any B g st m _ ov i _ _ (by first | exact HM3.out | exact HM3.out.drewN _) (by omega) hA.out).mono ?_); rintro e w2 ⟨rfl, hM2, hg2⟩) | (go_at_call 31; (with_reducible refine (simple_agg _ op i j k n ra rb _ ⟨o1, o2⟩ HN.out).mono ?_); rintro e w3 ⟨rfl, hb3⟩; have HM3 := Lib.hid (((H.out.alloc _).drewN _).below hb3 (Nat.le_refl _))))
  have hg2 : w3.grownBy w2 (some g) := ⟨hg2.os, hg2.tape, hg2.output, hg2.size, hg2.block⟩
  have hx0 : w2.cell? ⟨w.heap.size, 0, none⟩ = some (.int .i64 op) := hg2.cell ((hb3.cell (p := ⟨w.heap.size, 0, none⟩) (by simp)).trans (by go_simp)) (by intro e; injection e with e; simp at e; omega)
  have hs3 : w.heap.size < w2.heap.size := by (have h1 := hg2.size; have h2 := hb3.size; simp at h2; omega)
  have hb2 := Lib.hid (((below_drewN ((Below.refl B w).alloc (by omega) _) (nq + 1)).trans (hb3.mono (by simp; omega))).grown hg2 (by have h2 := hb3.size; simp at h2; omega) (fun q hq => by injection hq with hq; omega))
  have d4 := hM2.c4
  have d3 := hM2.c3
  have f4 := hM2.fz 4
  have f3 := hM2.fz 3
  rw [Rs.setReg_steps] at d3
  rw [Rs.setReg_pc] at d4
  have hM3 := Lib.hid hM2
  clear hg2 hM2 hb3
  go_wp2
  go_ret
  exact ⟨rfl, ⟨mv, ov, hM3.out.adv _ _ (by rw [Rs.setReg_steps])⟩, (hb2.out.setCell hb _).setCell hb _, by simp [World.setCell]; omega⟩
end Go.Proofs.Ytembhjfejhnpfaa
