/- The laws' plain facts of assembly. -/
import Derived.Test.YtbcpflogkniojaaQAsmFx
import Derived.Test.YtbcpflogkniojaaQMA
import Derived.Test.YtbcpflogkniojaaQRiscRDec
import Derived.Test.YtbcpflogkniojaaQMB
import Derived.Test.YtbcpflogkniojaaQMC
import Derived.Deep.WholeRow
import Derived.Test.YtbcpflogkniojaaQRiscRRunE
namespace Go.Proofs.Ytbcpflogkniojaa
open Go.RowKit
set_option linter.unusedVariables false
set_option linter.unusedSimpArgs false
theorem rdecode_enc {op a b c n : Int} (h : ¬ Rs.Bad op a b c n) (w : World) : Calls Try.prog 12 #[.int .u32 (Rs.enc op a b c n)] w fun e w' =>
    e = .returned (.tuple #[.agg #[.int .i64 op, .int .i64 a, .int .i64 b, .int .i64 c, .int .i64 n], .bool true]) ∧ Below w.heap.size w w' := by
  obtain ⟨h1, h2, h3, h4, h5, h6, h7⟩ := Rs.enc_fields h
  have hd := Rs.dec_enc h
  refine (rdecode_any _ w h1 h2).mono ?_
  rintro e w' ⟨rfl, hb⟩
  rw [decV, if_pos hd, hd, h3, h4, h5, h6, h7]
  exact ⟨rfl, hb⟩
/-- What assembling answers where nothing is wrong. -/
theorem AsmPost.ok {w w' : World} {l : List As.It} {e : Ending} (h : AsmPost w l e w') (he : As.err l = 0) : Below w.heap.size w w' ∧ ∃ (ac ap : Option Addr) (cc cp : Nat), e = .returned (.tuple #[.slice ac (As.code l).length cc, .slice ap l.length cp, .int .i64 0]) ∧ Sl w' (.slice ac (As.code l).length cc) ((As.code l).map (Value.int .u32)) ∧ Sl w' (.slice ap l.length cp) (nums (As.places0 l)) := by
  obtain ⟨hb, h⟩ := h
  refine ⟨hb, ?_⟩
  rw [if_pos he] at h
  obtain ⟨vc, vp, rfl, h1, h2⟩ := h
  obtain ⟨ac, cc, rfl⟩ := h1.len
  obtain ⟨ap, cp, rfl⟩ := h2.len
  rw [List.length_map] at h1
  have hl : (nums (As.places0 l)).length = l.length := by rw [nums, List.length_map, As.places0_length]
  rw [hl] at h2
  refine ⟨ac, ap, cc, cp, ?_, h1, h2⟩
  rw [List.length_map, hl]
theorem AsmPost.bad {w w' : World} {l : List As.It} {e : Ending} (h : AsmPost w l e w') (he : As.err l ≠ 0) : Below w.heap.size w w' ∧ e = .returned (.tuple #[.slice none 0 0, .slice none 0 0, .int .i64 (As.err l)]) := by
  obtain ⟨hb, h⟩ := h
  rw [if_neg he] at h
  exact ⟨hb, h⟩
/-- Where labels stand. -/
def As.labs (l : List As.It) (k : Nat) : List Nat := (List.range k).filter fun i => match l[i]? with
  | some x => decide (x.kind = 1)
  | none => false
theorem As.labs_succ {l : List As.It} {k : Nat} {x : As.It} (hx : l[k]? = some x) : As.labs l (k + 1) = As.labs l k ++ (if x.kind = 1 then [k] else []) := by
  unfold As.labs
  rw [List.range_succ, List.filter_append]
  congr 1
  by_cases h : x.kind = 1 <;> simp [hx, h]
theorem As.labs_mem {l : List As.It} {k i : Nat} : i ∈ As.labs l k ↔ i < k ∧ ∃ x, l[i]? = some x ∧ x.kind = 1 := by
  unfold As.labs
  rw [List.mem_filter, List.mem_range]
  cases hx : l[i]? <;> simp
theorem As.labs_length (l : List As.It) (k : Nat) : (As.labs l k).length ≤ k := by
  unfold As.labs
  have := List.length_filter_le (fun i => match l[i]? with
  | some x => decide (x.kind = 1)
  | none => false) (List.range k)
  simpa using this
/-- The label's place, as far as it is found. -/
def As.toN (l : List As.It) (t j : Nat) : Int := if t ∈ (As.labs l l.length).take j then (As.pl l (As.longs l) t : Nat) else -1
theorem As.toN_step {l : List As.It} (hg : As.Good l) {x : As.It} {t j q : Nat} {y : As.It} (ht : As.find x.label l = some t) (hq : (As.labs l l.length)[j]? = some q) (hy : l[q]? = some y) :
    As.toN l t (j + 1) = if y.label = x.label then ((As.pl l (As.longs l) q : Nat) : Int) else As.toN l t j := by
  obtain ⟨z, hz, hzl⟩ := As.find_some _ _ _ ht
  have hqm := As.labs_mem.1 (List.mem_of_getElem? hq)
  obtain ⟨-, y', hy', hk'⟩ := hqm
  rw [hy] at hy'
  injection hy' with hy'
  subst hy'
  simp only [As.isLabel, Bool.and_eq_true, decide_eq_true_eq] at hzl
  have key : y.label = x.label ↔ q = t := by
    constructor
    · intro e
      exact hg.once q t y z hy hz hk' hzl.1 (by rw [e, hzl.2])
    · intro e
      subst e
      rw [hy] at hz
      injection hz with hz
      rw [hz, hzl.2]
  unfold As.toN
  rw [List.take_add_one, hq]
  by_cases e : q = t
  · rw [if_pos (key.2 e), if_pos (by simp [e]), e]
  · rw [if_neg (fun h => e (key.1 h))]
    have : (t ∈ (As.labs l l.length).take j ++ (some q).toList) ↔ t ∈ (As.labs l l.length).take j := by
      simp only [List.mem_append, Option.toList_some, List.mem_singleton]
      exact ⟨fun h => h.resolve_right (fun h => e h.symm), .inl⟩
    simp only [this]
theorem As.toN_full {l : List As.It} {x : As.It} {t : Nat} (ht : As.find x.label l = some t) : As.toN l t (As.labs l l.length).length = (As.pl l (As.longs l) t : Nat) := by
  obtain ⟨z, hz, hzl⟩ := As.find_some _ _ _ ht
  simp only [As.isLabel, Bool.and_eq_true, decide_eq_true_eq] at hzl
  unfold As.toN
  rw [List.take_length, if_pos (As.labs_mem.2 ⟨As.find_lt ht, z, hz, hzl.1⟩)]
def idx (l : List Nat) : List Value := l.map fun (i : Nat) => Value.int .i64 (i : Int)
theorem getD_u32 (cs : List Int) {j : Nat} (h : j < cs.length) : (cs.map (Value.int .u32)).getD j undef = .int .u32 (cs.getD j 0) := by
  simp [List.getD_eq_getElem?_getD, h]
theorem nums_getD {ps : List Nat} {j p : Nat} (h : ps[j]? = some p) : (nums ps).getD j undef = .int .i64 (p : Int) := by
  simp [nums, List.getD_eq_getElem?_getD, h]
end Go.Proofs.Ytbcpflogkniojaa
/- An answer of Run in a variable. -/
namespace Go.Proofs.Ytbcpflogkniojaa
open Go.RowKit
set_option linter.unusedVariables false
set_option linter.unusedSimpArgs false
namespace Rs
theorem exec_len (op a b c n : Int) (m : M) : (exec op a b c n m).1.regs.length = m.regs.length := by
  have key : ∀ r, exec op a b c n m = r → r.1.regs.length = m.regs.length := by
    intro r hr
    unfold exec at hr
    dsimp only at hr
    repeat' split at hr
    all_goals subst hr
    all_goals simp [adv, setReg_facts]
  exact key _ rfl
theorem go_len (code : List Int) : ∀ (k : Nat) (m : M), (go code k m).1.regs.length = m.regs.length
  | 0, m => rfl
  | k + 1, m => by
    unfold go
    split
    · rfl
    · split
      · rfl
      · split
        · rw [go_len code k]; exact exec_len _ _ _ _ _ _
        · exact exec_len _ _ _ _ _ _
theorem runI_len (code mem : List Int) (words : Int) (inp : List UInt8) (steps : Int) : (runI code mem words inp steps).1.regs.length = 32 := by
  unfold runI
  split
  · rfl
  · unfold run
    rw [go_len]
    simp [start]
end Rs
/-- The variable's cells before. -/
def halt0 : Array Value := #[.int .i64 0, .int .i64 0, .string ⟨#[]⟩, .int .i64 0, .int .i64 0, .int .i64 0, .int .i64 0, .int .i64 0, .int .i64 0, .int .i64 0, .int .i64 0, .int .i64 0, .int .i64 0, .int .i64 0, .int .i64 0, .int .i64 0, .int .i64 0, .int .i64 0, .int .i64 0, .int .i64 0, .int .i64 0, .int .i64 0, .int .i64 0, .int .i64 0, .int .i64 0, .int .i64 0, .int .i64 0, .int .i64 0, .int .i64 0, .int .i64 0, .int .i64 0, .int .i64 0, .int .i64 0, .int .i64 0, .int .i64 0, .int .i64 0, .int .i64 0, .slice none 0 0]
theorem halt_store (w : World) (st : Int) (m : Rs.M) (mv : Value) (hr : m.regs.length = 32) (h1 : mv.oneCell' = true) :
    (storeCells ⟨w.heap.size, 0, none⟩ (Rs.halt st m mv)).run Try.prog (w.alloc (.cells #[.int .i64 0, .int .i64 0, .string ⟨#[]⟩, .int .i64 0, .int .i64 0, .int .i64 0, .int .i64 0, .int .i64 0, .int .i64 0, .int .i64 0, .int .i64 0, .int .i64 0, .int .i64 0, .int .i64 0, .int .i64 0, .int .i64 0, .int .i64 0, .int .i64 0, .int .i64 0, .int .i64 0, .int .i64 0, .int .i64 0, .int .i64 0, .int .i64 0, .int .i64 0, .int .i64 0, .int .i64 0, .int .i64 0, .int .i64 0, .int .i64 0, .int .i64 0, .int .i64 0, .int .i64 0, .int .i64 0, .int .i64 0, .int .i64 0, .int .i64 0, .slice none 0 0] 44)) =
      .ok () (w.alloc (.cells (Rs.halt st m mv).toArray 44)) := by
  have hl : (Rs.halt st m mv).length = 38 := by simp [Rs.halt, hr]
  rw [store_all (P := Try.prog) _ w.heap.size 44 _ (Rs.halt st m mv) (heap_alloc_new w _) (by rw [hl]; rfl) (halt_one' h1)]
  rw [World.setRow_alloc_new]
theorem halt_len' {st : Int} {m : Rs.M} {mv : Value} (hr : m.regs.length = 32) : (Rs.halt st m mv).length = 38 := by simp [Rs.halt, hr]
/-- The cells of an answer that stands in a block. -/
structure HaltAt (w : World) (k : Nat) (st : Int) (m : Rs.M) (mv : Value) : Prop where
  blk : w.heap[k]? = some (.cells (Rs.halt st m mv).toArray 44 (0, 0))
  regs : m.regs.length = 32
section
variable {w : World} {k : Nat} {st : Int} {m : Rs.M} {mv : Value}
theorem HaltAt.new (w : World) (h : m.regs.length = 32) : HaltAt (w.alloc (.cells (Rs.halt st m mv).toArray 44)) w.heap.size st m mv := ⟨heap_alloc_new w _, h⟩
theorem HaltAt.cell (h : HaltAt w k st m mv) (j : Nat) : w.cell? ⟨k, j, none⟩ = (Rs.halt st m mv)[j]? := by
  rw [cell_of_row w k j _ _ _ h.blk]; simp
theorem HaltAt.c0 (h : HaltAt w k st m mv) : w.cell? ⟨k, 0, none⟩ = some (.int .i64 st) := h.cell 0
theorem HaltAt.c1 (h : HaltAt w k st m mv) : w.cell? ⟨k, 1, none⟩ = some (.int .i64 m.value) := h.cell 1
theorem HaltAt.c2 (h : HaltAt w k st m mv) : w.cell? ⟨k, 2, none⟩ = some (.string ⟨m.out.toArray⟩) := h.cell 2
theorem HaltAt.c3 (h : HaltAt w k st m mv) : w.cell? ⟨k, 3, none⟩ = some (.int .i64 m.steps) := h.cell 3
theorem HaltAt.c4 (h : HaltAt w k st m mv) : w.cell? ⟨k, 4, none⟩ = some (.int .i64 m.pc) := h.cell 4
theorem HaltAt.cR (h : HaltAt w k st m mv) {i : Nat} (hi : i < 32) : w.cell? ⟨k, 5 + i, none⟩ = some (.int .i64 (m.regs.getD i 0)) := by
  rw [h.cell]
  unfold Rs.halt
  rw [show 5 + i = i + 5 by omega]
  have hr := h.regs
  simp only [List.getElem?_cons_succ]
  rw [List.getElem?_append_left (by simp; omega), List.getElem?_map, List.getElem?_eq_getElem (by omega), List.getD_eq_getElem?_getD, List.getElem?_eq_getElem (by omega)]
  rfl
theorem HaltAt.c37 (h : HaltAt w k st m mv) : w.cell? ⟨k, 37, none⟩ = some mv := by
  rw [h.cell]
  unfold Rs.halt
  have hr := h.regs
  simp only [List.getElem?_cons_succ]
  rw [List.getElem?_append_right (by simp; omega)]
  simp [hr]
theorem HaltAt.lt (h : HaltAt w k st m mv) : k < w.heap.size := (Array.getElem?_eq_some_iff.1 h.blk).1
theorem HaltAt.below {w' : World} {N : Nat} (h : HaltAt w k st m mv) (hb : Below N w w') (hN : k < N) : HaltAt w' k st m mv := ⟨(hb.block k hN).trans h.blk, h.regs⟩
theorem HaltAt.drewN (h : HaltAt w k st m mv) (n : Nat) : HaltAt (w.drewN n) k st m mv := ⟨h.blk, h.regs⟩
end
end Go.Proofs.Ytbcpflogkniojaa
/- AsmNumbers, walked. -/
namespace Go.Proofs.Ytbcpflogkniojaa
open Go.RowKit
set_option linter.unusedVariables false
set_option linter.unusedSimpArgs false
theorem infoItem : (Try.prog.info? 35).map (fun i => (i.zero, i.size, i.bytes)) = some (some (.agg #[.int .i64 0, .int .i64 0, .int .i64 0, .int .i64 0, .int .i64 0, .int .i64 0, .int .i64 0, .int .i64 0]), 8, 64) := by kernel_rfl
theorem flat_append (l m : List As.It) : As.flat (l ++ m) = As.flat l ++ As.flat m := by simp [As.flat]
theorem flat_length : ∀ l : List As.It, (As.flat l).length = l.length * 8
  | [] => rfl
  | x :: l => by
    have e : As.flat (x :: l) = x.cells ++ As.flat l := rfl
    rw [e, List.length_append, flat_length l]
    simp [As.It.cells]
    omega
theorem flat_get {l : List As.It} {j i : Nat} {x : As.It} {u : Value} (hx : l[j]? = some x) (hu : x.cells[i]? = some u) : (As.flat l)[j * 8 + i]? = some u := by
  induction l generalizing j with
  | nil => simp at hx
  | cons y l ih =>
    have e : As.flat (y :: l) = y.cells ++ As.flat l := rfl
    have h5 : y.cells.length = 8 := rfl
    have hi : i < 8 := by have := (List.getElem?_eq_some_iff.1 hu).1; simpa [As.It.cells] using this
    rw [e]
    cases j with
    | zero =>
      simp only [List.getElem?_cons_zero, Option.some.injEq] at hx
      subst hx
      rw [List.getElem?_append_left (by omega), Nat.zero_mul, Nat.zero_add]
      exact hu
    | succ j =>
      rw [List.getElem?_append_right (by omega), h5, show (j + 1) * 8 + i - 8 = j * 8 + i by omega]
      exact ih (by simpa using hx)
/-- An own row of items reads as a slice of items. -/
theorem isl_own {w : World} {B : Nat} {v : Value} {l : List As.It} (h : w.ownsRow B 35 8 v l.length (As.flat l)) : ISl w v l := by
  rcases own_shape h with ⟨rfl, h0, hx⟩ | ⟨g, cap, rfl, h1, h2, h3, h4⟩
  · have : l = [] := List.eq_nil_of_length_eq_zero h0
    subst this
    exact ⟨none, 0, rfl, .inl rfl⟩
  · refine ⟨_, cap, rfl, .inr ⟨g, 0, rfl, h2, fun j x hx => ?_⟩⟩
    have hj := (List.getElem?_eq_some_iff.1 hx).1
    have get : ∀ i u, x.cells[i]? = some u → w.cell? ⟨g, 0 + j * 8 + i, none⟩ = some u := by
      intro i u hu
      have hi : i < 8 := by have := (List.getElem?_eq_some_iff.1 hu).1; simpa [As.It.cells] using this
      rw [Nat.zero_add, h.cellAt (j * 8 + i) (by omega)]
      exact flat_get hx hu
    exact ⟨get 0 _ rfl, get 1 _ rfl, get 2 _ rfl, get 3 _ rfl, get 4 _ rfl, get 5 _ rfl, get 6 _ rfl, get 7 _ rfl⟩
/-- The reference's machine of words alone, twenty steps. -/
theorem run20 {ac : Option Addr} {cc : Nat} {CD : List Int} {m : Rs.M} (w : World) (hc : Sl w (.slice ac CD.length cc) (CD.map (Value.int .u32))) (hcr : ∀ x ∈ CD, 0 ≤ x ∧ x < 4294967296) (hr : Rs.runI CD [] 0 [] 20 = (m, 0)) :
    Calls Try.prog 16 #[.agg #[.slice ac CD.length cc, .slice none 0 0, .int .i64 0], .string ⟨#[]⟩, .int .i64 20] w fun e w' => ∃ mv, e = .returned (.agg (Rs.halt 0 m mv).toArray) ∧ mv.oneCell' = true ∧ Below w.heap.size w w' := by
  have h := rrun_any (.slice ac CD.length cc) (.slice none 0 0) CD [] 0 [] 20 w hc ⟨none, 0, rfl, .inl ⟨rfl, rfl, rfl⟩⟩ hcr (by simp) (by decide)
  rw [hr] at h
  refine Calls.mono h ?_
  rintro e w' ⟨mv, he, ho, hb⟩
  refine ⟨mv, he, ?_, hb⟩
  rcases own_shape ho with ⟨rfl, _⟩ | ⟨g, cap, rfl, _⟩ <;> rfl
theorem sl_nil21 {w : World} : Sl w (.slice none 0 0) (i64s []) := ⟨none, 0, rfl, .inl ⟨rfl, rfl, rfl⟩⟩
set_option maxHeartbeats 16000000 in
set_option maxRecDepth 100000 in
theorem anumbers_walk (n gap : Int) (hn : Rs.InR n) (W : World) : Calls Try.prog 5 #[.int .i64 n, .int .i64 gap] W fun e W' => e = .returned (.bool true) ∧ Below W.heap.size W W' := by
  have HN := Lib.hid hn
  have hn1 := hn.1
  have hn2 := hn.2
  clear hn
  rcases (by omega : gap < 0 ∨ (0 ≤ gap ∧ 500 < gap) ∨ (0 ≤ gap ∧ gap ≤ 500)) with h | ⟨h, h'⟩ | ⟨h, h'⟩
  · go_enter Try.func5, Try.ntmps5
    go_wp2_with fail
    with_reducible refine (fixed_any _).mono ?_
    rintro e w2 ⟨rfl, hb2⟩
    have B2 := Lib.hid hb2
    clear hb2
    go_wp2_with fail
    with_reducible refine (fixed_any _).mono ?_
    rintro e w3 ⟨rfl, hb3⟩
    have B3 := Lib.hid (B2.out.trans (hb3.mono B2.out.size))
    clear hb3
    go_wp2_with fail
    go_ret
    exact ⟨rfl, B3.out⟩
  · go_enter Try.func5, Try.ntmps5
    go_wp2_with fail
    with_reducible refine (fixed_any _).mono ?_
    rintro e w2 ⟨rfl, hb2⟩
    have B2 := Lib.hid hb2
    clear hb2
    go_wp2_with fail
    with_reducible refine (fixed_any _).mono ?_
    rintro e w3 ⟨rfl, hb3⟩
    have B3 := Lib.hid (B2.out.trans (hb3.mono B2.out.size))
    clear hb3
    go_wp2_with fail
    go_ret
    exact ⟨rfl, B3.out⟩
  · obtain ⟨g, rfl⟩ : ∃ g : Nat, gap = g := ⟨gap.toNat, by omega⟩
    have hg : g ≤ 500 := by omega
    obtain ⟨i0, hi, hz0, hz1, hz2⟩ := info_parts infoItem
    have HI := Lib.hid hi
    have HZ0 := Lib.hid hz0
    have HZ1 := Lib.hid hz1
    have HZ2 := Lib.hid hz2
    clear hi hz0 hz1 hz2
    go_enter Try.func5, Try.ntmps5
    go_wp2_with fail
    with_reducible refine (fixed_any _).mono ?_
    rintro e w1 ⟨rfl, hb1⟩
    have B1 := Lib.hid hb1
    clear hb1
    go_wp2_with fail
    with_reducible refine (constant_any 1 n _).mono ?_
    rintro e w2 ⟨rfl, hb2⟩
    have B2 := Lib.hid (B1.out.trans (hb2.mono B1.out.size))
    clear hb2
    go_wp2_with fail
    with_reducible refine (instr_any 0 1 0 _).mono ?_
    rintro e w3 ⟨rfl, hb3⟩
    have B3 := Lib.hid (B2.out.trans (hb3.mono B2.out.size))
    have hw3 : W.heap.size ≤ w3.heap.size := B3.out.size
    clear hb3
    go_wp2_with fail
    go_loopg [5, 6] g (fun gk lv i wx => ∃ (j b c : Nat), j ≤ g ∧ gk = g - j ∧ i = .int .i64 j ∧ lv = .slice (some ⟨b, 0, none⟩) (j + 3) c ∧ wx.ownsRow W.heap.size 35 8 (.slice (some ⟨b, 0, none⟩) (j + 3) c) (j + 3) (As.flat (As.numA n j)) ∧ Below W.heap.size W wx)
    case atStart => exact ⟨0, _, _, Nat.zero_le _, rfl, rfl, rfl, World.ownsRow_lit _ _ 3 hw3 (show 3 ≤ maxLen by decide) rfl, B3.out.alloc hw3 _⟩
    case round =>
      obtain ⟨j, b, c, hj, rfl, rfl, rfl, hown, hb⟩ := hrel
      have HO := Lib.hid hown
      have HB := Lib.hid hb
      have hws : W.heap.size ≤ wr.heap.size := hb.size
      clear hown hb
      by_cases hlt : j < g
      · have hgw : IntKind.i64.wrap ((j : Int) + 1) = j + 1 := by rw [IntKind.wrap_i64]; omega
        have HNX : Hid (As.flat (As.numA n (j + 1)) = As.flat (As.numA n j) ++ [.int .i64 0, .int .i64 20, .int .i64 4, .int .i64 0, .int .i64 0, .int .i64 (j : Nat), .int .i64 0, .int .i64 0]) := by unfold Hid; rw [As.numA_succ, flat_append]; rfl
        have hlt' : (j : Int) < g := by omega
        go_wp2_with fail
        with_reducible refine (instr_any 20 4 j _).mono ?_
        rintro e w4 ⟨rfl, hb4⟩
        have HO4 := Lib.hid (own_keep21 HO.out hb4)
        have HB4 := Lib.hid (HB.out.trans (hb4.mono hws))
        have hws4 : W.heap.size ≤ w4.heap.size := HB4.out.size
        clear hb4
        go_wp2_with (first | (at_builtin; refine wpList_append_lies _ rfl (.tmp 34) (.tmp 37) 22 rfl W.heap.size 35 i0 (.agg #[.int .i64 0, .int .i64 0, .int .i64 0, .int .i64 0, .int .i64 0, .int .i64 0, .int .i64 0, .int .i64 0]) 8 64 Try.underlying22 HI.out HZ0.out HZ1.out HZ2.out rfl (by decide) (.slice (some ⟨b, 0, none⟩) (j + 3) c) (j + 3) (As.flat (As.numA n j)) rfl (HO4.out.alloc _) ⟨w4.heap.size, 0, none⟩ 1 1 [.int .i64 0, .int .i64 20, .int .i64 4, .int .i64 0, .int .i64 0, .int .i64 (j : Nat), .int .i64 0, .int .i64 0] rfl rfl (new_cells _ (heap_new (by simp))) (by simp [Value.oneCell']) (by decide) (by simp only [maxLen]; omega) (by omega) (by simp; omega) (w4.heap.size + 1) (by simp) ?_; intro g5 c5 w5 hown5 hgr5 hat5 hlt5; have HO5 := Lib.hid hown5; have HG5 := Lib.hid hgr5; clear hown5 hgr5 hat5) | fail)
        go_roundg (g - (j + 1))
        case measure => omega
        case rel => exact ⟨j + 1, g5, c5, by omega, rfl, by go_num, rfl, by rw [HNX.out]; exact HO5.out, (HB4.out.alloc hws4 _).grown HG5.out (by simp; omega) (fun q hq => (HO4.out.lt q hq).1)⟩
      · obtain rfl : j = g := by omega
        have hge : ¬ (j : Int) < j := by omega
        clear h h'
        go_wp2_with fail
        with_reducible refine (label_any 3 _).mono ?_
        rintro e w4 ⟨rfl, hb4⟩
        have HO4 := Lib.hid (own_keep21 HO.out hb4)
        have HB4 := Lib.hid (HB.out.trans (hb4.mono hws))
        have hws4 : W.heap.size ≤ w4.heap.size := HB4.out.size
        clear hb4
        go_wp2_with (first | (at_builtin; refine wpList_append_lies _ rfl (.tmp 39) (.tmp 41) 22 rfl W.heap.size 35 i0 (.agg #[.int .i64 0, .int .i64 0, .int .i64 0, .int .i64 0, .int .i64 0, .int .i64 0, .int .i64 0, .int .i64 0]) 8 64 Try.underlying22 HI.out HZ0.out HZ1.out HZ2.out rfl (by decide) (.slice (some ⟨b, 0, none⟩) (j + 3) c) (j + 3) (As.flat (As.numA n j)) rfl (HO4.out.alloc _) ⟨w4.heap.size, 0, none⟩ 1 1 [.int .i64 1, .int .i64 0, .int .i64 0, .int .i64 0, .int .i64 0, .int .i64 0, .int .i64 3, .int .i64 0] rfl rfl (new_cells _ (heap_new (by simp))) (by simp [Value.oneCell']) (by decide) (by simp only [maxLen]; omega) (by omega) (by simp; omega) (w4.heap.size + 1) (by simp) ?_; intro g5 c5 w5 hown5 hgr5 hat5 hlt5; have HO5 := Lib.hid hown5; have HG5 := Lib.hid hgr5; clear hown5 hgr5 hat5) | fail)
        have HB5 := Lib.hid ((HB4.out.alloc hws4 _).grown HG5.out (by simp; omega) (fun q hq => (HO4.out.lt q hq).1))
        have HIS : Hid (ISl w5 (.slice (some ⟨g5, 0, none⟩) (As.numAll n j).length c5) (As.numAll n j)) := by
          unfold Hid
          refine isl_own (B := W.heap.size) ?_
          have e : As.flat (As.numAll n j) = As.flat (As.numA n j) ++ [.int .i64 1, .int .i64 0, .int .i64 0, .int .i64 0, .int .i64 0, .int .i64 0, .int .i64 3, .int .i64 0] := by unfold As.numAll; rw [flat_append]; rfl
          rw [e, As.numAll_length]
          exact HO5.out
        have HASM := Lib.hid (assemble_any (some ⟨g5, 0, none⟩) c5 (As.numAll n j) w5 HIS.out (by rw [As.numAll_length]; omega))
        have hal := HASM.out
        rw [As.numAll_length] at hal
        have HAL := Lib.hid hal
        have HE0 : Hid (As.err (As.numAll n j) = 0) := As.numAll_err n hg
        clear hal HASM HIS
        go_wp2_with fail
        with_reducible refine HAL.out.mono ?_
        intro e w6 h6
        obtain ⟨hb6, ac, ap, cc, cp, rfl, hc, hp⟩ := h6.ok HE0.out
        have HC := Lib.hid hc
        have HP := Lib.hid hp
        have HB6 := Lib.hid (HB5.out.trans (hb6.mono HB5.out.size))
        obtain ⟨q0, q1, q2, qt, hc7, hc3⟩ := As.numAll_places n hg
        have HCR := Lib.hid (As.code_range (As.numAll n j))
        have HLN : Hid ((As.numAll n j).length = j + 4) := As.numAll_length n j
        obtain ⟨m, hrun, hmv, hmr⟩ := As.num_run HN.out hg
        have HMV := Lib.hid hmv
        have HMR := Lib.hid hmr
        have HRUN : Hid (Rs.runI (As.code (As.numAll n j)) [] 0 [] 20 = (m, 0)) := by
          unfold Hid Rs.runI
          rw [if_neg (by unfold Rs.noImage; simp; omega)]
          exact hrun
        have HQ1 := Lib.hid q1
        have HQT := Lib.hid qt
        have HPG : Hid (∀ i, i < j + 4 → (nums (As.places0 (As.numAll n j)))[i]? = some (.int .i64 (As.pl (As.numAll n j) (As.longs (As.numAll n j)) i : Nat))) := fun i hi => by
          rw [nums, List.getElem?_map, As.places0_get (by rw [HLN.out]; exact hi)]; rfl
        generalize As.places0 (As.numAll n j) = PS at *
        generalize hCD : As.code (As.numAll n j) = CD at *
        rw [HLN.out]
        have hHP := HP.out
        rw [HLN.out] at hHP
        have HP2 := Lib.hid hHP
        clear h6 hb6 hc hp q0 q1 q2 qt hmv hmr hrun hCD HP hHP HAL
        go_wp2_with fail
        have HML : Hid (m.regs.length = 32) := by unfold Hid; rw [HMR.out]; simp
        with_reducible refine (run20 _ HC.out HCR.out HRUN.out).mono ?_
        rintro e w7 ⟨mv, rfl, hm1, hb7⟩
        have hst := halt_store w7 0 m mv HML.out hm1
        have hln := halt_len' (st := 0) (m := m) (mv := mv) HML.out
        have HH : Hid (HaltAt (w7.alloc (.cells (Rs.halt 0 m mv).toArray 44)) w7.heap.size 0 m mv) := HaltAt.new w7 HML.out
        have HB7 := Lib.hid (HB6.out.trans (hb7.mono HB6.out.size))
        have HP7 := Lib.hid (HP2.out.below hb7 (Nat.le_refl _))
        clear hb7 HP2 HC
        go_upto_region 11 with fail
        generalize hW8 : w7.alloc (.cells (Rs.halt 0 m mv).toArray 44) = W8 at HH ⊢
        have HB8 : Hid (Below W.heap.size W W8) := by unfold Hid; rw [← hW8]; exact HB7.out.alloc HB7.out.size _
        have HP8 : Hid (Sl W8 (.slice ap (j + 4) cp) (nums PS)) := by unfold Hid; rw [← hW8]; exact HP7.out.below ((Below.refl _ _).alloc (Nat.le_refl _) _) (Nat.le_refl _)
        have hpn : nums PS ≠ [] := by intro e; have := HPG.out 0 (by omega); rw [e] at this; simp at this
        obtain ⟨pb, po, hap, hpb, hpat⟩ := HP8.out.at hpn
        subst hap
        have hpl : (nums PS).length = j + 4 := by
          obtain ⟨a', c', h, _⟩ := HP8.out
          injection h with h1 h2 h3
          exact h2.symm
        have hpg : ∀ i, i < j + 4 → W8.cell? ⟨pb, po + i, none⟩ = some (.int .i64 (As.pl (As.numAll n j) (As.longs (As.numAll n j)) i : Nat)) := fun i hi => by
          rw [hpat i (by omega), List.getD_eq_getElem?_getD, HPG.out i hi]; rfl
        have p1 := hpg 1 (by omega)
        rw [HQ1.out] at p1
        have p2 := hpg (j + 3) (by omega)
        rw [HQT.out] at p2
        have p3 : W8.cell? ⟨pb, po + (j + 4 - 1), none⟩ = some (.int .i64 (CD.length : Nat)) := p2
        have k0 := HH.out.c0
        have k1 := HH.out.c1
        rw [HMV.out] at k1
        have k7 := HH.out.cR (i := 2) (by omega)
        have hr2 : m.regs.getD 2 0 = (CD.length : Nat) := by rw [HMR.out]; rfl
        rw [hr2] at k7
        have hpp := As.pieces_pos n
        have hpv : Hid ((As.pieces n = 1) ∨ (As.pieces n = 2 ∧ (n < -32768 ∨ 32767 < n)) ∨ (As.pieces n = 3 ∧ (n < -2147483648 ∨ 2147483647 < n)) ∨ (As.pieces n = 4 ∧ (n < -140737488355328 ∨ 140737488355327 < n))) := by
          unfold Hid As.pieces
          repeat' split
          all_goals omega
        obtain ⟨K, hK⟩ : ∃ K, Hid (As.pieces n = K) := ⟨_, rfl⟩
        rw [hK.out] at p1 hpp hpv hc3
        have e34 : j + 3 + 1 = j + 4 := rfl
        rw [e34]
        have hgj : IntKind.i64.wrap ((j : Int) + 4 - 1) = (j : Int) + 3 := by rw [IntKind.wrap_i64]; omega
        have hgj2 : (0 : Int) ≤ (j : Int) + 3 := by omega
        have hgj3 : (j : Int) + 3 < (j : Int) + 4 := by omega
        clear hst hln hW8 hpg hpat hpn hpl hr2 HH e34 hge
        rcases hpv.out with rfl | ⟨rfl, hx⟩ | ⟨rfl, hx⟩ | ⟨rfl, hx⟩
        · go_wp2_with fail
          go_ret
          exact ⟨rfl, HB8.out⟩
        · have z1 : (n / 32768 != 0) = true := by rw [bne_iff_ne]; omega
          have z2 : (n / 32768 != -1) = true := by rw [bne_iff_ne]; omega
          go_wp2_with fail
          go_ret
          exact ⟨by first | rfl | simp [z1, z2], HB8.out⟩
        · have z1 : (n / 2147483648 != 0) = true := by rw [bne_iff_ne]; omega
          have z2 : (n / 2147483648 != -1) = true := by rw [bne_iff_ne]; omega
          go_wp2_with fail
          go_ret
          exact ⟨by first | rfl | simp [z1, z2], HB8.out⟩
        · have z1 : (n / 140737488355328 != 0) = true := by rw [bne_iff_ne]; omega
          have z2 : (n / 140737488355328 != -1) = true := by rw [bne_iff_ne]; omega
          go_wp2_with fail
          go_ret
          exact ⟨by first | rfl | simp [z1, z2], HB8.out⟩
end Go.Proofs.Ytbcpflogkniojaa
/- AsmNumbers: what the proof imports. -/
namespace Go.Proofs.Ytbcpflogkniojaa
set_option linter.unusedVariables false
set_option linter.unusedSimpArgs false
theorem wf_i64' {z : Int} (h : (Lit.int .i64 z).wf = true) : Rs.InR z := by
  simp only [Lit.wf, Bool.and_eq_true, decide_eq_true_eq] at h
  exact ⟨h.1, h.2⟩
end Go.Proofs.Ytbcpflogkniojaa
