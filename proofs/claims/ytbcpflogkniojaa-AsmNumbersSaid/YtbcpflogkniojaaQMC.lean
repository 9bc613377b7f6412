/- slices.Clone at []int. -/
import Derived.Test.YtbcpflogkniojaaQMA
import Derived.Laws.AppendOwn
import Derived.Test.YtbcpflogkniojaaRows
import Derived.WalkKit
import Derived.Lib.AppendZerosOnto
import Derived.Maps.AppendAt
import Derived.Test.YtbcpflogkniojaaQMB
import Derived.Laws.IdiomStrings
import Derived.Deep.MidRow
import Derived.Deep.Onto
import Derived.Laws.CopyOwn
import Derived.Laws.MakeOwn
import Derived.Test.YtbcpflogkniojaaQFrame
import Derived.Deep.QuietTactic
import Derived.BigQuiet
import Derived.StillTailTactics
import Derived.Outline
import Derived.Deep.RegionHeld3
import Derived.Deep.AppendLies
import Derived.Deep.LoopGhost
namespace Go.Proofs.Ytbcpflogkniojaa
open Go.RowKit
set_option linter.unusedSimpArgs false
set_option linter.unusedVariables false
theorem infoI : (Try.prog.info? 3).map (fun i => (i.zero, i.size, i.bytes)) = some (some (.int .i64 0), 1, 8) := by kernel_rfl
theorem alloc_cells {w : World} {ad : Addr} {zs : List Value} (h : ∀ j u, zs[j]? = some u → w.cell? (ad.add j) = some u) (o : Obj) : ∀ j u, zs[j]? = some u → (w.alloc o).cell? (ad.add j) = some u := by
  intro j u hu
  have h1 := h j u hu
  have h2 := World.block_lt_of_cell? w _ h1
  exact (((Below.refl w.heap.size w).alloc (Nat.le_refl _) o).cell (p := ad.add j) h2).trans h1
def ClonePost (zs : List Value) (w : World) (e : Ending) (w' : World) : Prop := ∃ v, e = .returned v ∧ w'.ownsRow w.heap.size 3 1 v zs.length zs ∧ Below w.heap.size w w'
end Go.Proofs.Ytbcpflogkniojaa
/- append of so many zeros onto a row of the call's own. -/
namespace Go.Proofs.Ytbcpflogkniojaa
open Go.RowKit
set_option linter.unusedVariables false
set_option linter.unusedSimpArgs false
section
variable {P : Program} (w : World)
theorem zeros_toList (z : Array Value) (n : Nat) (v : Value) (h : z = #[v]) : (Builtin.zeroCells z n).toList = List.replicate n v := by
  subst h
  have : (Builtin.zeroCells #[v] n).toList = (List.range n).map fun _ => v := by simp [Builtin.zeroCells, Nat.mod_one]
  rw [this, List.map_const', List.length_range]
theorem run_append_room_zeros (t tn ty e : TypeId) (i : TypeInfo) (z : Value) (kq kn : IntKind) (ht : P.underlying t = some (.slice e)) (htn : P.underlying tn = some (.int kn)) (hi : P.info? e = some i) (hz : i.zero = some z)
    (hs1 : i.size = 1) (hzc : z.cells = #[z]) (hz1 : z.oneCell' = true)
    (g sLen sCap : Nat) (cur : Array Value) (hg : w.heap[g]? = some (.cells cur e (0, 0))) (k : Nat) (hroom : sLen + k ≤ sCap) (hfit : sLen + k ≤ cur.size) (h63 : (k : Int) ≤ 9223372036854775807) (h48 : k * i.bytes ≤ 281474976710656) :
    (Builtin.append_ #[t, tn] ty #[.slice (some ⟨g, 0, none⟩) sLen sCap, .int kq k]).run P w =
      .ok (.slice (some ⟨g, 0, none⟩) (sLen + k) sCap) (w.setRow g (cur.toList.take sLen ++ List.replicate k z ++ cur.toList.drop (sLen + k)).toArray) := by
  have hw : IntKind.i64.wrap (k : Int) = k := by rw [IntKind.wrap_i64]; omega
  have hneg : ¬ ((k : Int) < 0) := by omega
  have h48i : ¬ (281474976710656 < (k : Int) * (i.bytes : Int)) := by
    rw [← Int.natCast_mul]
    omega
  have hst := run_storeCells_at P g sLen e (List.replicate k z) 0 cur w hg (by simpa using hfit) (fun u hu => by rw [(List.mem_replicate.1 hu).2]; exact hz1)
  simp only [Nat.add_zero] at hst
  have hzl : (Builtin.zeroCells z.cells k).toList = List.replicate k z := zeros_toList _ _ _ hzc
  by_cases hk : k = 0
  · subst hk
    have hw0 : IntKind.i64.wrap 0 = 0 := rfl
    have hr0 : sLen ≤ sCap := hroom
    have hst0 : (storeCells (⟨g, sLen, none⟩ : Addr) ([] : List Value)).run P w = .ok () (w.setRow g (cur.toList.take sLen ++ List.replicate 0 z ++ cur.toList.drop (sLen + 0)).toArray) := hst
    simp only [List.replicate_zero, List.append_nil, Nat.add_zero] at hst0 ⊢
    simp [-List.take_append_drop, Builtin.append_, run_underlying ht, run_underlying htn, sizeOf, typeInfo, zeroValue, hi, hz, asInt, asIntOf, hw0, hs1, hr0, Addr.add_lit, hst0]
  · simp [Builtin.append_, run_underlying ht, run_underlying htn, sizeOf, typeInfo, zeroValue, hi, hz, asInt, asIntOf, hw, hneg, h48i, hroom, hk, hs1, Addr.add_lit, hzl, hst]
/-- The law. -/
theorem run_append_zeros_own (base t tn ty e : Nat) (i : TypeInfo) (z : Value) (bytes : Nat) (kq kn : IntKind) (ht : P.underlying t = some (.slice e)) (htn : P.underlying tn = some (.int kn)) (hi : P.info? e = some i) (hz : i.zero = some z)
    (hs1 : i.size = 1) (hby : i.bytes = bytes) (hzc : z.cells = #[z]) (hz1 : z.oneCell' = true)
    (v : Value) (n : Nat) (xs : List Value) (hown : w.ownsRow base e 1 v n xs) (k : Nat) (h63 : n + k ≤ maxLen) (hbytes : (n + k) * bytes ≤ 140737488355328) (hbase : base ≤ w.heap.size) :
    ∃ v' w', (Builtin.append_ #[t, tn] ty #[v, .int kq k]).run P w = .ok v' w' ∧ w'.ownsRow base e 1 v' (n + k) (xs ++ List.replicate k z) ∧ w.grownBy w' v.ownBlock ∧ (v'.ownBlock = v.ownBlock ∨ v'.ownBlock = some w.heap.size) := by
  subst hby
  have h63' : n + k ≤ 9223372036854775807 := by simpa only [maxLen] using h63
  have hk48 : k * i.bytes ≤ 281474976710656 := by
    have := Nat.mul_le_mul_right i.bytes (Nat.le_add_left k n)
    omega
  have hlen : (xs ++ List.replicate k z).length = (n + k) * 1 := by rw [List.length_append, hown.1, List.length_replicate]; omega
  have hzl : ∀ q, (Builtin.zeroCells z.cells q) = (List.replicate q z).toArray := fun q => by
    have := zeros_toList z.cells q z hzc
    rw [← this]
  have grown : ∀ (old : Nat), old < n + k → ∀ (row : Option Nat),
      (w.drew.alloc (.cells (xs.toArray ++ Builtin.zeroCells z.cells k ++ Builtin.zeroCells z.cells (grownCap w (n + k) old e - (n + k))) e)).ownsRow base e 1
        (.slice (some ⟨w.heap.size, 0, none⟩) (n + k) (grownCap w (n + k) old e)) (n + k) (xs ++ List.replicate k z) ∧
      w.grownBy (w.drew.alloc (.cells (xs.toArray ++ Builtin.zeroCells z.cells k ++ Builtin.zeroCells z.cells (grownCap w (n + k) old e - (n + k))) e)) row := by
    intro old ho row
    have hge := grownCap_ge w (n + k) old e
    have hcm : grownCap w (n + k) old e ≤ maxLen := grownCap_le_maxLen w (n + k) old e h63
    have hx1 := hown.1
    refine ⟨⟨hlen, .inr ⟨w.heap.size, _, _, rfl, hbase, heap_alloc_new w.drew _, hge, hcm, ?_, ?_⟩⟩, ⟨rfl, rfl, rfl, by simp, fun j hj _ => heap_alloc_old w.drew _ hj⟩⟩
    · rw [hzl, hzl]
      simp only [Array.size_append, List.size_toArray, List.length_replicate, hx1]
      omega
    · rw [hzl, hzl]
      simp only [Array.toList_append]
      rw [← hlen]
      exact List.take_left
  rcases hown.2 with ⟨rfl, rfl⟩ | ⟨g, cap, cur, rfl, hbg, hg, hnc, hcm, hcs, htake⟩
  · have hx : xs = [] := List.eq_nil_of_length_eq_zero (by simpa using hown.1)
    subst hx
    by_cases hk : k = 0
    · subst hk
      refine ⟨.slice none 0 0, w, ?_, World.ownsRow_nil w base e 1, ⟨rfl, rfl, rfl, Nat.le_refl _, fun _ _ _ => rfl⟩, .inl rfl⟩
      have hw0 : IntKind.i64.wrap 0 = 0 := rfl
      simp [Builtin.append_, run_underlying ht, run_underlying htn, sizeOf, typeInfo, zeroValue, hi, hz, asInt, asIntOf, hw0, hs1]
    · have hr := Lib.run_append_nil_zeros (P := P) w t tn ty e i z kq kn ht htn hi hz k (by omega) (by omega) (by omega) hk48
      have hgr := grown 0 (by omega) (Value.ownBlock (.slice none 0 0))
      simp only [Nat.zero_add, List.nil_append, Array.empty_append] at hgr ⊢
      exact ⟨_, _, hr, hgr.1, hgr.2, .inr rfl⟩
  · by_cases hroom : n + k ≤ cap
    · have hfit : n + k ≤ cur.size := by omega
      have hr := run_append_room_zeros (P := P) w t tn ty e i z kq kn ht htn hi hz hs1 hzc hz1 g n cap cur hg k hroom hfit (by omega) hk48
      have hx1 := hown.1
      refine ⟨_, _, hr, ⟨hlen, .inr ⟨g, cap, _, rfl, hbg, setRow_heap w g cur _ e _ hg, hroom, hcm, ?_, ?_⟩⟩, ⟨rfl, rfl, rfl, by simp, fun k _ hk => setRow_other w g k _ (fun e => hk (by simp [Value.ownBlock, e]))⟩, .inl rfl⟩
      · simp only [List.size_toArray, List.length_append, List.length_take, List.length_drop, Array.length_toList, List.length_replicate]
        omega
      · have h2 : cur.toList.take n = xs := by simpa using htake
        rw [h2, ← hlen]
        exact List.take_left
    · have holds : ∀ j u, xs[j]? = some u → w.cell? ((⟨g, 0, none⟩ : Addr).add j) = some u := hown.cells (g := g) rfl
      have hf := run_firstCells_some (P := P) w.drew i.size n ⟨g, 0, none⟩ n cap xs (by rw [hown.1, hs1]) holds
      have hr := Lib.run_append_grow_zeros (P := P) w t tn ty e i z kq kn ht htn hi hz (some ⟨g, 0, none⟩) n cap xs hf k (by omega) (by omega) (by omega) (by omega) hk48 (growslice_fits (by omega) hbytes)
      have hgr := grown cap (by omega) (Value.ownBlock (.slice (some ⟨g, 0, none⟩) n cap))
      exact ⟨_, _, hr, hgr.1, hgr.2, .inr rfl⟩
/-- At a step of a region that draws its order. -/
theorem step_append_zeros {ops : Array Oper} {o : Oper} {a : Act} {K : Act → World → Prop} {Q : Exit → Act → World → Prop} {E : Prop} (hgd : o.guard = none) (s x : Operand) (t tn : TypeId)
    (ho : o.op = .call { callee := .builtin .append, args := #[s, x], argTypes := #[t, tn] })
    (base e : Nat) (i : TypeInfo) (z : Value) (bytes : Nat) (kq kn : IntKind) (ht : P.underlying t = some (.slice e)) (htn : P.underlying tn = some (.int kn)) (hi : P.info? e = some i) (hz : i.zero = some z)
    (hs1 : i.size = 1) (hby : i.bytes = bytes) (hzc : z.cells = #[z]) (hz1 : z.oneCell' = true)
    (v : Value) (n : Nat) (xs : List Value) (hs : a.eval s = v) (hown : w.ownsRow base e 1 v n xs) (k : Nat) (hx : a.eval x = .int kq k) (h63 : n + k ≤ maxLen) (hbytes : (n + k) * bytes ≤ 140737488355328) (hbase : base ≤ w.heap.size)
    (h : ∀ v' w', w'.ownsRow base e 1 v' (n + k) (xs ++ List.replicate k z) → w.grownBy w' v.ownBlock → (v'.ownBlock = v.ownBlock ∨ v'.ownBlock = some w.heap.size) → K (a.put o.dst v') w') :
    if Region.wanted o (yielded ops a.tmps) = true then Oper.wp P o a w K Q else E := by
  have hw : Region.wanted o (yielded ops a.tmps) = true := by simp [Region.wanted, hgd]
  rw [if_pos hw]
  obtain ⟨v', w', hr, h1, h2, h3⟩ := run_append_zeros_own (P := P) w base t tn o.type e i z bytes kq kn ht htn hi hz hs1 hby hzc hz1 v n xs hown k h63 hbytes hbase
  exact Lib.wp_append_run w s x t tn ho v _ hs hx v' w' hr (h v' w' h1 h2 h3)
end
end Go.Proofs.Ytbcpflogkniojaa
/- Run: laws of the world around the loop. -/
namespace Go.Proofs.Ytbcpflogkniojaa
open Go.RowKit
set_option linter.unusedVariables false
set_option linter.unusedSimpArgs false
theorem Sl.drew {w : World} {v : Value} {xs : List Value} (h : Sl w v xs) : Sl w.drew v xs := h
theorem own_sl {w : World} {B e size n : Nat} {v : Value} {xs : List Value} (h : w.ownsRow B e size v n xs) : ∃ a cap, v = .slice a n cap := by
  rcases own_shape h with ⟨rfl, rfl, _⟩ | ⟨g, cap, rfl, _⟩
  · exact ⟨none, 0, rfl⟩
  · exact ⟨_, _, rfl⟩
/-- What stands at an address. -/
def cellOr (w : World) (p : Addr) : Value := (w.cell? p).getD undef
theorem cellOr_of {w : World} {p : Addr} {v : Value} (h : w.cell? p = some v) : w.cell? p = some (cellOr w p) := by unfold cellOr; rw [h]; rfl
/-- What Run's fourth region keeps. -/
abbrev RunS (b : Nat) (v0 v1 v2 : Value) (w' : World) : Prop :=
  w'.cell? ⟨b, 0, none⟩ = some v0 ∧ w'.cell? ⟨b, 1, none⟩ = some v1 ∧ w'.cell? ⟨b, 2, none⟩ = some v2 ∧ w'.cell? ⟨b + 1 + 1, 37, none⟩ = some (cellOr w' ⟨b + 1 + 1, 37, none⟩) ∧ w'.frozen? ⟨b + 1 + 1, 37, none⟩ = false
theorem RunS.of {b : Nat} {v0 v1 v2 : Value} {w w' : World} (h : RunS b v0 v1 v2 w) (hk : ∀ k, k < b + 3 → w'.heap[k]? = w.heap[k]?) : RunS b v0 v1 v2 w' := by
  obtain ⟨h0, h1, h2, h3, h4⟩ := h
  have e : ∀ (j k : Nat), k < b + 3 → w'.cell? ⟨k, j, none⟩ = w.cell? ⟨k, j, none⟩ := fun j k h => World.cell?_of_block (hk k h)
  have f : ∀ (j k : Nat), k < b + 3 → w'.frozen? ⟨k, j, none⟩ = w.frozen? ⟨k, j, none⟩ := fun j k h => World.frozen?_of_block (hk k h)
  exact ⟨(e _ _ (by omega)).trans h0, (e _ _ (by omega)).trans h1, (e _ _ (by omega)).trans h2, cellOr_of ((e _ _ (by omega)).trans h3), (f _ _ (by omega)).trans h4⟩
theorem RunS.set {b : Nat} {v0 v1 v2 v : Value} {w : World} (h : RunS b v0 v1 v2 w) : RunS b v0 v1 v2 (w.setCell ⟨b + 1 + 1, 37, none⟩ v) := by
  obtain ⟨h0, h1, h2, h3, h4⟩ := h
  have hb := World.block_lt_of_cell? w _ h3
  have e : ∀ j, (w.setCell ⟨b + 1 + 1, 37, none⟩ v).cell? ⟨b, j, none⟩ = w.cell? ⟨b, j, none⟩ := fun j => World.cell?_of_block (heap_setCell_other w ⟨b + 1 + 1, 37, none⟩ b v (by show b ≠ b + 1 + 1; omega))
  refine ⟨(e _).trans h0, (e _).trans h1, (e _).trans h2, ?_, ?_⟩
  · obtain ⟨u, hu⟩ : ∃ u, (w.setCell ⟨b + 1 + 1, 37, none⟩ v).cell? ⟨b + 1 + 1, 37, none⟩ = some u := ⟨v, by simp [World.cell?_setCell_same, h3]⟩
    exact cellOr_of hu
  · simp [h4]
/-- The machine's block behind the fourth region. -/
theorem run_made {W w3 w4 : World} {g T n k : Nat} {m0 m1 : Rs.M} {v3 v4 : Value} (b2 : W.heap[g]? = some (.cells (Rs.cells 0 m0 (.slice none 0 0) (.slice none 0 0)).toArray T (0, 0))) (hs : W.heap.size = g + 1)
    (hb3 : Below W.heap.size W.drew w3) (hown3 : w3.ownsRow W.heap.size 3 1 v3 n (m0.mem.map (Value.int .i64))) (hgr : w3.grownBy w4 v3.ownBlock) (hown4 : w4.ownsRow W.heap.size 3 1 v4 k (m1.mem.map (Value.int .i64)))
    (hk : k = m1.mem.length) (hok : Rs.Ok m1) (ho : m1.out = []) (hm : m1 = { m0 with mem := m1.mem }) :
    MSt ⟨g, []⟩ (w4.setCell ⟨g, 37, none⟩ v4) g T 0 m1 v4 (.slice none 0 0) ∧ Below g W (w4.setCell ⟨g, 37, none⟩ v4) := by
  have hne3 : v3.ownBlock ≠ some g := fun e => by have := (hown3.lt g e).1; omega
  have hne4 : v4.ownBlock ≠ some g := fun e => by have := (hown4.lt g e).1; omega
  have hsz : g < w3.heap.size := by have := hb3.size; have e : W.drew.heap.size = W.heap.size := rfl; omega
  have hg4 : w4.heap[g]? = some (.cells (Rs.cells 0 m0 (.slice none 0 0) (.slice none 0 0)).toArray T (0, 0)) := by
    rw [hgr.block g hsz (fun e => hne3 e.symm), hb3.block g (by omega)]
    exact b2
  have hr : m0.regs.length = 32 := by have := hok.regs; rw [hm] at this; exact this
  subst hk
  have hnil : ∀ w : World, w.ownsRow g 5 1 (.slice none 0 0) 0 [] := fun w => World.ownsRow_nil _ _ _ _
  refine ⟨⟨Nat.le_refl _, ?_, ownsRow_setCell_other (hown4.mono (by show g ≤ _; omega)) hne4 v4, ?_, hne4, by simp [Value.ownBlock], ?_, hok, fun p hp => by cases hp⟩, ?_⟩
  · rw [heap_setCell_same w4 g 37 _ T v4 hg4]
    have hset : (Rs.cells 0 m0 (.slice none 0 0) (.slice none 0 0)).set 37 v4 = Rs.cells 0 m0 v4 (.slice none 0 0) := Rs.set_tail hr 0 _
    have hmm : Rs.cells 0 m1 v4 (.slice none 0 0) = Rs.cells 0 m0 v4 (.slice none 0 0) := by rw [hm]; rfl
    rw [hmm, ← hset]
    simp
  · rw [ho]; exact hnil _
  · cases h : v4.ownBlock with
    | none => exact .inl rfl
    | some q => exact .inr (by simp [Value.ownBlock])
  · have h1 : Below g W w3 := ((Below.refl g W).drew).trans (hb3.mono (by omega))
    exact (h1.grown hgr (by omega) (fun k hk => by have := (hown3.lt k hk).1; omega)).setCell (Nat.le_refl _) _
theorem string_of_own {w : World} {B : Nat} {ov : Value} {out : List UInt8} (h : w.ownsRow B 5 1 ov out.length (out.map fun x => Value.int .u8 x.toNat)) :
    (convert 71 9 ov).run Try.prog w = .ok (.string ⟨out.toArray⟩) w := by
  have hu : Try.prog.underlying 5 = some (.int .u8) := by kernel_rfl
  have hs : Try.prog.underlying 9 = some .string := by kernel_rfl
  rcases own_shape h with ⟨rfl, h1, h2⟩ | ⟨g, cap, rfl, h1, h2, h3, h4⟩
  · have ho : out = [] := List.eq_nil_of_length_eq_zero h1
    subst ho
    rw [run_convert_bytes_string w _ _ 5 none 0 0 Try.underlying71 hu hs]
    simp [Conv.bytesToString]
    rfl
  · refine run_convert_bytes_back w _ _ 5 _ cap out Try.underlying71 hu hs (fun j hj => ?_)
    refine h.cells (g := g) rfl j _ ?_
    rw [List.getElem?_map, List.getElem?_eq_getElem hj]
    rfl
/-- Behind the output has become a string: the result's cells. -/
theorem halt_range {B : Bd} {g T : Nat} {w : World} {st : Int} {m : Rs.M} {mv ov : Value} (h : MSt B w g T st m mv ov) : (w.setCell ⟨g, 2, none⟩ (.string ⟨m.out.toArray⟩)).rangeAt g 0 (Rs.halt st m mv) := by
  intro j v hj
  have hb : (w.setCell ⟨g, 2, none⟩ (.string ⟨m.out.toArray⟩)).heap[g]? = _ := heap_setCell_same w g 2 _ T (.string ⟨m.out.toArray⟩) h.blk
  rw [cell_of_row _ g _ _ T (0, 0) hb]
  have hl : Rs.halt st m mv ++ [.string ⟨m.inp.toArray⟩, ov] = (Rs.cells st m mv ov).set 2 (.string ⟨m.out.toArray⟩) := by simp [Rs.halt, Rs.cells]
  have hlt : j < (Rs.halt st m mv).length := (List.getElem?_eq_some_iff.1 hj).1
  simp only [List.setIfInBounds_toArray, List.getElem?_toArray, Nat.zero_add]
  rw [← hl, List.getElem?_append_left hlt]
  exact hj
theorem halt_len {st : Int} {m : Rs.M} {mv : Value} (h : Rs.Ok m) : (Rs.halt st m mv).length = 38 := by simp [Rs.halt, h.regs]
theorem halt_one {st : Int} {m : Rs.M} {mv : Value} (h : mv.oneCell' = true) : (Rs.halt st m mv).toArray.all (·.oneCell') = true := by
  rw [List.all_toArray, List.all_eq_true]
  intro u hu
  simp only [Rs.halt, List.mem_cons, List.mem_append, List.mem_map, List.mem_singleton, List.not_mem_nil, or_false] at hu
  rcases hu with rfl | rfl | rfl | rfl | rfl | ⟨z, _, rfl⟩ | rfl
  all_goals first | rfl | exact h
theorem halt_one' {st : Int} {m : Rs.M} {mv : Value} (h : mv.oneCell' = true) : ∀ v ∈ Rs.halt st m mv, v.oneCell' = true := by
  have := halt_one (st := st) (m := m) h
  rw [List.all_toArray, List.all_eq_true] at this
  exact this
theorem own_one {w : World} {B e n : Nat} {v : Value} {xs : List Value} (h : w.ownsRow B e 1 v n xs) : v.oneCell' = true := by
  rcases own_shape h with ⟨rfl, _⟩ | ⟨g, cap, rfl, _⟩ <;> rfl
theorem run_zeros {mem : List Int} {q : Nat} {inp : List UInt8} (h : mem.length ≤ q) : mem.map (Value.int .i64) ++ List.replicate (q - mem.length) (Value.int .i64 0) = (Rs.start mem q inp).mem.map (Value.int .i64) := by
  simp [Rs.start]
theorem run_res {B k t : Nat} {W V : World} {cs : Array Value} {fr : Nat × Nat} (h : W.heap[k]? = some (.cells cs t fr)) (hb : Below B W V) (hk : k < B) {u : Nat} {x : Value} {g : Nat} (hg : k ≠ g) : (V.setCell ⟨g, u, none⟩ x).heap[k]? = some (.cells cs t fr) := by
  rw [heap_setCell_other _ _ _ _ (show k ≠ (⟨g, u, none⟩ : Addr).block from hg), hb.block k hk]
  exact h
theorem haltD : ∃ d, Try.prog.underlying 44 = some d ∧ d.isRow = true := by
  have h : (Try.prog.underlying 44).map TypeDesc.isRow = some true := by kernel_rfl
  cases hq : Try.prog.underlying 44 with
  | none => rw [hq] at h; cases h
  | some d => rw [hq] at h; exact ⟨d, rfl, by simpa using h⟩
theorem results_cell {P : Program} {fn : Func} {p : Tmp} {ty : TypeId} (h : fn.results = #[.cell p ty]) (tmps : Array Value) (w : World) (g : Nat) (t : TypeId) (cs : Array Value) (fr : Nat × Nat) (d : TypeDesc)
    (hp : tmps.getD p undef = .pointer (some ⟨g, 0, none⟩)) (hg : w.heap[g]? = some (.cells cs t fr)) (hu : P.underlying ty = some d) (hd : d.isRow = true) (hi : (P.info? ty).map (·.size) = some cs.size) :
    (results fn tmps).run P w = .ok (.agg cs) w := by
  cases d with
  | struct f => exact results_cell_row h tmps w g t cs fr _ hp hg hu rfl hi
  | array a b => exact results_cell_row h tmps w g t cs fr _ hp hg hu rfl hi
  | _ => simp [TypeDesc.isRow] at hd
theorem store_all {P : Program} (w : World) (g t : Nat) (old : Array Value) (cs : List Value) (hg : w.heap[g]? = some (.cells old t (0, 0))) (ho : old.size = cs.length) (h1 : ∀ v ∈ cs, v.oneCell' = true) :
    (storeCells ⟨g, 0, none⟩ cs).run P w = .ok () (w.setRow g cs.toArray) := by
  have := run_storeCells_from (P := P) g t cs 0 old w hg (by omega) h1
  simpa [ho] using this
/-- What the region of the decoding keeps. -/
abbrev DecS (p0 p1 p2 : Addr) (v0 v1 v2 : Value) (w' : World) : Prop := w'.cell? p0 = some v0 ∧ w'.cell? p1 = some v1 ∧ w'.cell? p2 = some v2
theorem DecS.below {p0 p1 p2 : Addr} {v0 v1 v2 : Value} {w w' : World} (h : DecS p0 p1 p2 v0 v1 v2 w) (hb : Below w.heap.size w w') : DecS p0 p1 p2 v0 v1 v2 w' := by
  obtain ⟨h0, h1, h2⟩ := h
  exact ⟨(hb.cell (World.block_lt_of_cell? w _ h0)).trans h0, (hb.cell (World.block_lt_of_cell? w _ h1)).trans h1, (hb.cell (World.block_lt_of_cell? w _ h2)).trans h2⟩
theorem DecS.hp {p0 p1 p2 : Addr} {v0 v1 v2 : Value} {w w' : World} (k : Nat) (h : DecS p0 p1 p2 v0 v1 v2 w) (h0 : p0.block ≠ k) (h1 : p1.block ≠ k) (h2 : p2.block ≠ k) (hb : ∀ i, i ≠ k → w'.heap[i]? = w.heap[i]?) : DecS p0 p1 p2 v0 v1 v2 w' :=
  ⟨(World.cell?_of_block (hb _ h0)).trans h.1, (World.cell?_of_block (hb _ h1)).trans h.2.1, (World.cell?_of_block (hb _ h2)).trans h.2.2⟩
/-- A block of five cells that was made ahead of a call. -/
theorem five_kept {w w3 : World} {c0 c1 c2 c3 c4 : Value} {t : TypeId} {n : Nat} (hb : Below ((w.drewN n).alloc (.cells #[c0, c1, c2, c3, c4] t)).heap.size ((w.drewN n).alloc (.cells #[c0, c1, c2, c3, c4] t)) w3) : w3.heap[w.heap.size]? = some (.cells #[c0, c1, c2, c3, c4] t (0, 0)) := by
  rw [hb.block _ (by simp)]
  exact heap_alloc_new (w.drewN n) _
theorem below_of_drew {w w3 : World} {n : Nat} (h : Below (w.drewN n).heap.size (w.drewN n) w3) : Below w.heap.size w w3 := (below_drewN (Below.refl w.heap.size w) n).trans h
theorem below_of_alloc {w w3 : World} {n : Nat} {o : Obj} (h : Below ((w.drewN n).alloc o).heap.size ((w.drewN n).alloc o) w3) : Below w.heap.size w w3 := ((below_drewN (Below.refl w.heap.size w) n).alloc (Nat.le_refl _) o).trans (h.mono (by simp))
theorem below_five {B : Nat} {a w : World} {u0 u1 u2 u3 u4 : Value} (h : Below B a w) : Below B a (((((w.setCell ⟨B, 0, none⟩ u0).setCell ⟨B, 1, none⟩ u1).setCell ⟨B, 2, none⟩ u2).setCell ⟨B, 3, none⟩ u3).setCell ⟨B, 4, none⟩ u4) :=
  ((((h.setCell (Nat.le_refl _) _).setCell (Nat.le_refl _) _).setCell (Nat.le_refl _) _).setCell (Nat.le_refl _) _).setCell (Nat.le_refl _) _
theorem DecS.alloc {p0 p1 p2 : Addr} {v0 v1 v2 : Value} {w : World} (h : DecS p0 p1 p2 v0 v1 v2 w) (o : Obj) : DecS p0 p1 p2 v0 v1 v2 (w.alloc o) := h.below ((Below.refl _ _).alloc (Nat.le_refl _) _)
/-- What Run answers. -/
def RunYes (r : Rs.M × Int) (w : World) (e : Ending) (w' : World) : Prop :=
  ∃ mv, e = .returned (.agg (Rs.halt r.2 r.1 mv).toArray) ∧ w'.ownsRow w.heap.size 3 1 mv r.1.mem.length (r.1.mem.map (Value.int .i64)) ∧ Below w.heap.size w w'
theorem run_end {w W V : World} {T : Nat} {st : Int} {m : Rs.M} {mv ov : Value} {cs : Array Value} {s : Value} (h : MSt ⟨w.heap.size + 1 + 1, []⟩ V (w.heap.size + 1 + 1) T st m mv ov) (hw : Below w.heap.size w W) (hb : Below (w.heap.size + 1 + 1) W V) :
    RunYes (m, st) w (.returned (.agg (Rs.halt st m mv).toArray)) ((V.setCell ⟨w.heap.size + 1 + 1, 2, none⟩ s).setRow (w.heap.size + 1) cs) := by
  refine ⟨mv, rfl, ?_, below_setRow ((hw.trans (hb.mono (by omega))).setCell (by show w.heap.size ≤ w.heap.size + 1 + 1; omega) _) (by omega) _⟩
  have h1 := ownsRow_setCell_other h.mem h.ne1 s (a := ⟨w.heap.size + 1 + 1, 2, none⟩)
  obtain ⟨h2, h3⟩ := h1
  refine ⟨h2, ?_⟩
  rcases h3 with h3 | ⟨g1, cap, cur, hv, hg, hh, r⟩
  · exact .inl h3
  · have hg' : w.heap.size + 1 + 1 ≤ g1 := hg
    exact .inr ⟨g1, cap, cur, hv, by omega, (setRow_other _ _ _ _ (by omega)).trans hh, r⟩
/-- What holds at the head of each round. -/
structure RunRel (W : World) (code : List Int) (steps : Int) (R : Rs.M × Int) (g T gk : Nat) (st : Int) (m : Rs.M) (mv ov : Value) (wx : World) : Prop where
  st0 : MSt ⟨g, []⟩ wx g T st m mv ov
  below : Below g W wx
  way : (st = 6 ∧ Rs.Inv code steps m ∧ Rs.go code (steps - m.steps).toNat m = R ∧ gk = (steps - m.steps).toNat + 1) ∨ (st ≠ 6 ∧ R = (m, st) ∧ gk = 0)
end Go.Proofs.Ytbcpflogkniojaa
/- The reference's Run: laws of the world around the loop. -/
namespace Go.Proofs.Ytbcpflogkniojaa
open Go.RowKit
set_option linter.unusedVariables false
set_option linter.unusedSimpArgs false
/-- Four blocks made one behind the other. -/
theorem four_made (w : World) (c1 c2 c3 c4 : Array Value) (t1 t2 t3 t4 : TypeId) {W : World}
    (h : ((((w.alloc (.cells c1 t1)).alloc (.cells c2 t2)).alloc (.cells c3 t3)).alloc (.cells c4 t4)) = W) :
    W.heap[w.heap.size]? = some (.cells c1 t1 (0, 0)) ∧ W.heap[w.heap.size + 1]? = some (.cells c2 t2 (0, 0)) ∧ W.heap[w.heap.size + 1 + 1]? = some (.cells c3 t3 (0, 0)) ∧ W.heap[w.heap.size + 1 + 1 + 1]? = some (.cells c4 t4 (0, 0)) ∧ W.heap.size = w.heap.size + 4 ∧ Below w.heap.size w W := by
  obtain ⟨a1, a2, a3, a4, a5⟩ := three_made w c1 c2 c3 t1 t2 t3 rfl
  have ho : ∀ k, k < w.heap.size + 3 → ((((w.alloc (.cells c1 t1)).alloc (.cells c2 t2)).alloc (.cells c3 t3)).alloc (.cells c4 t4)).heap[k]? = (((w.alloc (.cells c1 t1)).alloc (.cells c2 t2)).alloc (.cells c3 t3)).heap[k]? := fun k hk => heap_alloc_old _ _ (by rw [a4]; exact hk)
  have hn : ((((w.alloc (.cells c1 t1)).alloc (.cells c2 t2)).alloc (.cells c3 t3)).alloc (.cells c4 t4)).heap[w.heap.size + 1 + 1 + 1]? = some (.cells c4 t4 (0, 0)) := by
    have := heap_alloc_new (((w.alloc (.cells c1 t1)).alloc (.cells c2 t2)).alloc (.cells c3 t3)) (.cells c4 t4)
    rw [a4] at this
    exact this
  subst h
  exact ⟨(ho _ (by omega)).trans a1, (ho _ (by omega)).trans a2, (ho _ (by omega)).trans a3, hn, by simp, a5.alloc (by rw [a4]; omega) _⟩
/-- The machine's block behind the copy. -/
theorem rmade {W w4 : World} {g T q : Nat} {m0 m1 : Rs.M} {l : List Value} (b2 : W.heap[g]? = some (.cells (Rs.cells 0 m0 (.slice (some ⟨g + 1, 0, none⟩) q q) (.slice none 0 0)).toArray T (0, 0))) (hs : W.heap.size = g + 2)
    (h4 : w4.heap[g + 1]? = some (.cells l.toArray 3 (0, 0))) (hl : l = m1.mem.map (Value.int .i64)) (hq : q = m1.mem.length) (hqm : q ≤ maxLen) (hb : Below (g + 1) W.drew w4) (hok : Rs.Ok m1) (ho : m1.out = []) (hm : m1 = { m0 with mem := m1.mem }) :
    MSt ⟨g, []⟩ w4 g T 0 m1 (.slice (some ⟨g + 1, 0, none⟩) q q) (.slice none 0 0) ∧ Below g W w4 := by
  have hr : m0.regs.length = 32 := by have := hok.regs; rw [hm] at this; exact this
  subst hl hq
  refine ⟨⟨Nat.le_refl _, ?_, ⟨by simp, .inr ⟨g + 1, _, _, rfl, by show g ≤ g + 1; omega, h4, Nat.le_refl _, hqm, by simp, by rw [Nat.mul_one]; exact List.take_of_length_le (by simp)⟩⟩, ?_, by simp [Value.ownBlock], by simp [Value.ownBlock], .inr (by simp [Value.ownBlock]), hok, fun p hp => by cases hp⟩, ?_⟩
  · rw [hb.block g (by omega)]
    have : Rs.cells 0 m1 (.slice (some ⟨g + 1, 0, none⟩) m1.mem.length m1.mem.length) (.slice none 0 0) = Rs.cells 0 m0 (.slice (some ⟨g + 1, 0, none⟩) m1.mem.length m1.mem.length) (.slice none 0 0) := by rw [hm]; rfl
    rw [this]
    exact b2
  · rw [ho]; exact World.ownsRow_nil _ _ _ _
  · exact ((Below.refl g W).drew).trans (hb.mono (by omega))
theorem halt_range_alloc {B : Bd} {g T : Nat} {w : World} {st : Int} {m : Rs.M} {mv ov : Value} (h : MSt B w g T st m mv ov) (o : Obj) : ((w.setCell ⟨g, 2, none⟩ (.string ⟨m.out.toArray⟩)).alloc o).rangeAt g 0 (Rs.halt st m mv) := by
  intro j v hj
  have h1 := halt_range h j v hj
  exact (((Below.refl _ _).alloc (Nat.le_refl _) o).cell (World.block_lt_of_cell? _ _ h1)).trans h1
theorem run_res_alloc {B k t : Nat} {W V : World} {cs : Array Value} {fr : Nat × Nat} (h : W.heap[k]? = some (.cells cs t fr)) (hb : Below B W V) (hk : k < B) {u : Nat} {x : Value} {g : Nat} (hg : k ≠ g) (o : Obj) : ((V.setCell ⟨g, u, none⟩ x).alloc o).heap[k]? = some (.cells cs t fr) := by
  have h1 := run_res h hb hk (u := u) (x := x) hg
  rw [heap_alloc_old _ _ (Array.getElem?_eq_some_iff.1 h1).1]
  exact h1
theorem run_end_alloc {w W V : World} {T : Nat} {st : Int} {m : Rs.M} {mv ov : Value} {cs : Array Value} {s : Value} (h : MSt ⟨w.heap.size + 1 + 1, []⟩ V (w.heap.size + 1 + 1) T st m mv ov) (hw : Below w.heap.size w W) (hb : Below (w.heap.size + 1 + 1) W V) (o : Obj) :
    RunYes (m, st) w (.returned (.agg (Rs.halt st m mv).toArray)) (((V.setCell ⟨w.heap.size + 1 + 1, 2, none⟩ s).alloc o).setRow (w.heap.size + 1) cs) := by
  have hb1 := ((hw.trans (hb.mono (by omega))).setCell (p := ⟨w.heap.size + 1 + 1, 2, none⟩) (by show w.heap.size ≤ w.heap.size + 1 + 1; omega) s)
  refine ⟨mv, rfl, ?_, below_setRow (hb1.alloc hb1.size o) (by omega) _⟩
  have h1 := ownsRow_setCell_other h.mem h.ne1 s (a := ⟨w.heap.size + 1 + 1, 2, none⟩)
  obtain ⟨h2, h3⟩ := h1
  refine ⟨h2, ?_⟩
  rcases h3 with h3 | ⟨g1, cap, cur, hv, hg, hh, r⟩
  · exact .inl h3
  · have hg' : w.heap.size + 1 + 1 ≤ g1 := hg
    exact .inr ⟨g1, cap, cur, hv, by omega, (setRow_other _ _ _ _ (by omega)).trans ((heap_alloc_old _ _ (Array.getElem?_eq_some_iff.1 hh).1).trans hh), r⟩
/-- What is kept may be another thing. -/
theorem MSt.rekeep {B : Bd} {w w' : World} {g T : Nat} {st : Int} {m : Rs.M} {mv ov : Value} (h : MSt B w g T st m mv ov) (X : List (Nat × Obj)) (hk : ∀ i, i < w.heap.size → (∀ p ∈ X, i ≠ p.1) → w'.heap[i]? = w.heap[i]?)
    (hX : ∀ p ∈ X, w'.heap[p.1]? = some p.2 ∧ p.1 ≠ g ∧ some p.1 ≠ mv.ownBlock ∧ some p.1 ≠ ov.ownBlock) : MSt ⟨B.n, X⟩ w' g T st m mv ov := by
  have key : ∀ {e size : Nat} {v : Value} {n : Nat} {xs : List Value}, w.ownsRow B.n e size v n xs → (∀ p ∈ X, some p.1 ≠ v.ownBlock) → w'.ownsRow B.n e size v n xs := by
    intro e size v n xs ho hne
    obtain ⟨h1, h2⟩ := ho
    refine ⟨h1, ?_⟩
    rcases h2 with h2 | ⟨g1, cap, cur, hv, hg, hh, r⟩
    · exact Or.inl h2
    · refine Or.inr ⟨g1, cap, cur, hv, hg, (hk g1 (Array.getElem?_eq_some_iff.1 hh).1 (fun p hp e => hne p hp (by rw [hv, ← e]; rfl))).trans hh, r⟩
  exact ⟨h.base, (hk g h.lt (fun p hp e => (hX p hp).2.1 e.symm)).trans h.blk, key h.mem (fun p hp => (hX p hp).2.2.1), key h.out (fun p hp => (hX p hp).2.2.2), h.ne1, h.ne2, h.ne3, h.ok, hX⟩
/-- What the reference has decoded. -/
structure KOk (code : List Int) (KN SN : Array Value) : Prop where
  ks : KN.size = code.length * 5
  ss : SN.size = code.length
  at_ : ∀ i, i < code.length → SN[i]? = some (.bool false) ∨ (SN[i]? = some (.bool true) ∧ Rs.decB (code.getD i 0) = true ∧ KN[i * 5]? = some (.int .i64 (Rs.fO (code.getD i 0))) ∧ KN[i * 5 + 1]? = some (.int .i64 (Rs.fA (code.getD i 0))) ∧
    KN[i * 5 + 2]? = some (.int .i64 (Rs.fB (Rs.fO (code.getD i 0)) (code.getD i 0))) ∧ KN[i * 5 + 3]? = some (.int .i64 (Rs.fC (Rs.fO (code.getD i 0)) (code.getD i 0))) ∧ KN[i * 5 + 4]? = some (.int .i64 (Rs.fN (Rs.fO (code.getD i 0)) (code.getD i 0))))
def setFive (KN : Array Value) (p : Nat) (u0 u1 u2 u3 u4 : Value) : Array Value := ((((KN.setIfInBounds p u0).setIfInBounds (p + 1) u1).setIfInBounds (p + 2) u2).setIfInBounds (p + 3) u3).setIfInBounds (p + 4) u4
theorem setFive_get {KN : Array Value} {p : Nat} {u0 u1 u2 u3 u4 : Value} (h : p + 4 < KN.size) : (setFive KN p u0 u1 u2 u3 u4)[p]? = some u0 ∧ (setFive KN p u0 u1 u2 u3 u4)[p + 1]? = some u1 ∧ (setFive KN p u0 u1 u2 u3 u4)[p + 2]? = some u2 ∧ (setFive KN p u0 u1 u2 u3 u4)[p + 3]? = some u3 ∧ (setFive KN p u0 u1 u2 u3 u4)[p + 4]? = some u4 := by
  unfold setFive
  refine ⟨?_, ?_, ?_, ?_, ?_⟩ <;> (simp only [Array.getElem?_setIfInBounds]; grind)
theorem setFive_other {KN : Array Value} {p i : Nat} {u0 u1 u2 u3 u4 : Value} (h : i < p ∨ p + 5 ≤ i) : (setFive KN p u0 u1 u2 u3 u4)[i]? = KN[i]? := by
  unfold setFive
  simp only [Array.getElem?_setIfInBounds]
  grind
theorem setFive_size {KN : Array Value} {p : Nat} {u0 u1 u2 u3 u4 : Value} : (setFive KN p u0 u1 u2 u3 u4).size = KN.size := by simp [setFive]
theorem KOk.set {code : List Int} {KN SN : Array Value} (h : KOk code KN SN) {p : Nat} (hp : p < code.length) {x : Int} (hx : code.getD p 0 = x) (hd : Rs.decB x = true) :
    KOk code (setFive KN (p * 5) (.int .i64 (Rs.fO x)) (.int .i64 (Rs.fA x)) (.int .i64 (Rs.fB (Rs.fO x) x)) (.int .i64 (Rs.fC (Rs.fO x) x)) (.int .i64 (Rs.fN (Rs.fO x) x))) (SN.setIfInBounds p (.bool true)) := by
  refine ⟨setFive_size.trans h.ks, by simpa using h.ss, fun i hi => ?_⟩
  by_cases hip : i = p
  · subst hip
    obtain ⟨g0, g1, g2, g3, g4⟩ := setFive_get (KN := KN) (p := i * 5) (u0 := .int .i64 (Rs.fO x)) (u1 := .int .i64 (Rs.fA x)) (u2 := .int .i64 (Rs.fB (Rs.fO x) x)) (u3 := .int .i64 (Rs.fC (Rs.fO x) x)) (u4 := .int .i64 (Rs.fN (Rs.fO x) x)) (by have := h.ks; omega)
    rw [hx]
    refine .inr ⟨?_, hd, g0, g1, g2, g3, g4⟩
    rw [Array.getElem?_setIfInBounds]
    have := h.ss
    simp; omega
  · have e : (SN.setIfInBounds p (.bool true))[i]? = SN[i]? := by rw [Array.getElem?_setIfInBounds, if_neg (fun e => hip e.symm)]
    rw [e, setFive_other (by omega), setFive_other (by omega), setFive_other (by omega), setFive_other (by omega), setFive_other (by omega)]
    exact h.at_ i hi
theorem KOk.new {code : List Int} : KOk code (madeCells #[.int .i64 0, .int .i64 0, .int .i64 0, .int .i64 0, .int .i64 0] (code.length * 5)) (madeCells #[.bool false] code.length) := by
  refine ⟨size_madeCells _ _, size_madeCells _ _, fun i hi => .inl ?_⟩
  have hz : i < (madeCells #[Value.bool false] code.length).size := by rw [size_madeCells]; omega
  rw [Array.getElem?_eq_getElem hz]
  simp [madeCells, Nat.mod_one]
/-- The machine behind a word has been decoded and kept. -/
theorem MSt.cached {n g T kb sb tk ts : Nat} {KN SN : Array Value} {w : World} {st : Int} {m : Rs.M} {mv ov : Value} (h : MSt ⟨n, [(kb, .cells KN tk (0, 0)), (sb, .cells SN ts (0, 0))]⟩ w g T st m mv ov) (hne : kb ≠ sb) (p q : Nat) (u0 u1 u2 u3 u4 u : Value) :
    MSt ⟨n, [(kb, .cells (setFive KN p u0 u1 u2 u3 u4) tk (0, 0)), (sb, .cells (SN.setIfInBounds q u) ts (0, 0))]⟩ ((((((w.setCell ⟨kb, p, none⟩ u0).setCell ⟨kb, p + 1, none⟩ u1).setCell ⟨kb, p + 2, none⟩ u2).setCell ⟨kb, p + 3, none⟩ u3).setCell ⟨kb, p + 4, none⟩ u4).setCell ⟨sb, q, none⟩ u) g T st m mv ov := by
  obtain ⟨k1, k2⟩ := h.kept (kb, .cells KN tk (0, 0)) (by simp)
  obtain ⟨s1, s2⟩ := h.kept (sb, .cells SN ts (0, 0)) (by simp)
  have c0 := heap_setCell_same w kb p KN tk u0 k1
  have c1 := heap_setCell_same _ kb (p + 1) _ tk u1 c0
  have c2 := heap_setCell_same _ kb (p + 2) _ tk u2 c1
  have c3 := heap_setCell_same _ kb (p + 3) _ tk u3 c2
  have c4 := heap_setCell_same _ kb (p + 4) _ tk u4 c3
  have five : ∀ i, i ≠ kb → (((((w.setCell ⟨kb, p, none⟩ u0).setCell ⟨kb, p + 1, none⟩ u1).setCell ⟨kb, p + 2, none⟩ u2).setCell ⟨kb, p + 3, none⟩ u3).setCell ⟨kb, p + 4, none⟩ u4).heap[i]? = w.heap[i]? := fun i hi => by
    rw [heap_setCell_other _ _ _ _ hi, heap_setCell_other _ _ _ _ hi, heap_setCell_other _ _ _ _ hi, heap_setCell_other _ _ _ _ hi, heap_setCell_other _ _ _ _ hi]
  refine h.rekeep _ (fun i hi hne' => ?_) (fun r hr => ?_)
  · have e1 := hne' (kb, .cells (setFive KN p u0 u1 u2 u3 u4) tk (0, 0)) (by simp)
    have e2 := hne' (sb, .cells (SN.setIfInBounds q u) ts (0, 0)) (by simp)
    rw [heap_setCell_other _ _ _ _ e2]
    exact five i e1
  · simp only [List.mem_cons, List.not_mem_nil, or_false] at hr
    rcases hr with rfl | rfl
    · exact ⟨by rw [heap_setCell_other _ _ _ _ hne]; exact c4, k2⟩
    · exact ⟨heap_setCell_same _ sb q SN ts u ((five sb (fun e => hne e.symm)).trans s1), s2⟩
end Go.Proofs.Ytbcpflogkniojaa
/- The machine's small methods. -/
namespace Go.Proofs.Ytbcpflogkniojaa
open Go.RowKit
set_option linter.unusedSimpArgs false
set_option linter.unusedVariables false

/-- A region that draws: all but the last operations only read; the last ones stand in a forced order. -/
theorem wp_still_tl {P : Program} {id : Nat} {Q : Exit → Act → World → Prop} {a : Act} {w : World} {l : List Oper} (n : Nat) (hm : P.follows .mixedOrders = true) (hB : Region.lexTailB .any l.toArray n = true)
    (h : wpStill P l.toArray w.drew (fun a' => wpList P l.toArray Q (l.drop n) a' w.drew) (l.take n) a) : (Code.region id l.toArray true).wp P Q a w :=
  wp_region_still_tail n hm hB h
theorem grown_set (w : World) (g j : Nat) (v : Value) : w.grownBy (w.setCell ⟨g, j, none⟩ v) (some g) := ⟨rfl, rfl, rfl, by simp, fun k _ hk => heap_setCell_other w ⟨g, j, none⟩ k v (fun e => hk (by simp [e]))⟩
theorem MSt.hp {B : Bd} {g T : Nat} {w w' : World} {st : Int} {m : Rs.M} {mv ov : Value} (h : MSt B w g T st m mv ov) (he : w'.heap = w.heap) : MSt B w' g T st m mv ov := by
  have key : ∀ {e size : Nat} {v : Value} {n : Nat} {xs : List Value}, w.ownsRow B e size v n xs → w'.ownsRow B e size v n xs := by
    intro e size v n xs ho
    obtain ⟨h1, h2⟩ := ho
    refine ⟨h1, ?_⟩
    rcases h2 with h2 | ⟨g1, cap, cur, hv, hg, hh, r⟩
    · exact Or.inl h2
    · exact Or.inr ⟨g1, cap, cur, hv, hg, by rw [he]; exact hh, r⟩
  exact ⟨h.base, by rw [he]; exact h.blk, key h.mem, key h.out, h.ne1, h.ne2, h.ne3, h.ok, fun p hp => ⟨by rw [he]; exact (h.kept p hp).1, (h.kept p hp).2⟩⟩
def SetPost (B : Bd) (g T : Nat) (st : Int) (m' : Rs.M) (mv ov : Value) (w : World) (e : Ending) (w' : World) : Prop :=
  e = .returned (.tuple #[]) ∧ MSt B w' g T st m' mv ov ∧ w.grownBy w' (some g)
def SimpPost (v : Int) (w : World) (e : Ending) (w' : World) : Prop := e = .returned (.int .i64 v) ∧ Below w.heap.size w w'
end Go.Proofs.Ytbcpflogkniojaa
/- One step of the machine. -/
namespace Go.Proofs.Ytbcpflogkniojaa
open Go.RowKit
set_option linter.unusedVariables false
set_option linter.unusedSimpArgs false

def StepPost (B : Bd) (g T : Nat) (st : Int) (r : Rs.M × Int) (w : World) (e : Ending) (w' : World) : Prop :=
  e = .returned (.int .i64 r.2) ∧ (∃ mv ov, MSt B w' g T st r.1 mv ov) ∧ Below B w w' ∧ w.heap.size ≤ w'.heap.size

theorem form_abc {op : Int} (h1 : 1 ≤ op) (h2 : op ≤ 14) : Rs.form op = 1 := by
  unfold Rs.form
  rw [if_neg (by omega), if_pos (by omega)]
theorem cell_new (w : World) (cs : Array Value) (j : Nat) (v : Value) {t : TypeId} (h : cs[j]? = some v) : (w.alloc (.cells cs t)).cell? ⟨w.heap.size, j, none⟩ = some v := by
  rw [cell_of_row _ w.heap.size j cs t (0, 0) (heap_alloc_new w _)]
  exact h
theorem Rs.setReg_steps (m : Rs.M) (r v : Int) : (Rs.setReg m r v).steps = m.steps := by unfold Rs.setReg; split <;> rfl
theorem MSt.adv {B : Bd} {g T : Nat} {w : World} {st : Int} {m : Rs.M} {mv ov : Value} (h : MSt B w g T st m mv ov) (p s : Int) (hs : s = m.steps + 1) :
    MSt B ((w.setCell ⟨g, 4, none⟩ (.int .i64 p)).setCell ⟨g, 3, none⟩ (.int .i64 s)) g T st (Rs.adv m p) mv ov := by
  subst hs
  exact (h.setPc p).setSteps _
theorem still_of {F : Nat} {args : Array Value} {w : World} {v : Value} (h : Calls Try.prog F args w fun e w' => e = .returned v ∧ w = w') : Calls Try.prog F args w fun e w' => e = .returned v ∧ w' = w := h.mono fun _ _ h => ⟨h.1, h.2.symm⟩

end Go.Proofs.Ytbcpflogkniojaa
/- Steps of the machine, class by class. -/
namespace Go.Proofs.Ytbcpflogkniojaa
open Go.RowKit
set_option linter.unusedVariables false
set_option linter.unusedSimpArgs false
theorem Rs.setReg_pc (m : Rs.M) (r v : Int) : (Rs.setReg m r v).pc = m.pc := by unfold Rs.setReg; split <;> rfl
theorem form_br {op : Int} (h1 : 24 ≤ op) (h2 : op ≤ 27) : Rs.form op = 4 := by
  unfold Rs.form
  rw [if_neg (by omega), if_neg (by omega), if_neg (by omega), if_neg (by omega), if_pos (by omega)]

end Go.Proofs.Ytbcpflogkniojaa
/- Steps of the machine: memory, input, output, and the simple ones. -/
namespace Go.Proofs.Ytbcpflogkniojaa
open Go.RowKit
set_option linter.unusedVariables false
set_option linter.unusedSimpArgs false
theorem MSt.mvForm {B : Bd} {g T : Nat} {w : World} {st : Int} {m : Rs.M} {mv ov : Value} (h : MSt B w g T st m mv ov) : ∃ am capm, mv = .slice am m.mem.length capm ∧ (0 < m.mem.length → ∃ bm, am = some ⟨bm, 0, none⟩ ∧ bm < w.heap.size) := by
  rcases own_shape h.mem with ⟨h1, h2, _⟩ | ⟨g1, cap, h1, _, h3, _⟩
  · exact ⟨none, 0, by rw [h1, h2], fun h3 => by omega⟩
  · exact ⟨_, cap, h1, fun _ => ⟨g1, rfl, h3⟩⟩

end Go.Proofs.Ytbcpflogkniojaa
/- Steps of the machine: input, output, and the simple ones. -/
namespace Go.Proofs.Ytbcpflogkniojaa
open Go.RowKit
set_option linter.unusedVariables false
set_option linter.unusedSimpArgs false
theorem grown_set_then {w w2 : World} {g j : Nat} {v : Value} (h : (w.setCell ⟨g, j, none⟩ v).grownBy w2 (some g)) : w.grownBy w2 (some g) :=
  ⟨h.os, h.tape, h.output, by have := h.size; simpa [World.setCell] using this, fun k hk hne => (h.block k (by simpa [World.setCell] using hk) hne).trans (heap_setCell_other w ⟨g, j, none⟩ k v (fun e => hne (by simp [e])))⟩
theorem tail_bytes (c : UInt8) (l : List UInt8) : (⟨(c :: l).toArray⟩ : ByteArray).extract 1 (l.length + 1) = ⟨l.toArray⟩ := by
  apply ByteArray.ext
  simp
theorem head_bytes (c : UInt8) (l : List UInt8) (h : 0 < (⟨(c :: l).toArray⟩ : ByteArray).size) : wrap64 ((((⟨(c :: l).toArray⟩ : ByteArray)[0]'h).toNat : Nat) : Int) = c.toNat := by
  have : ((⟨(c :: l).toArray⟩ : ByteArray)[0]'h) = c := rfl
  rw [this]
  exact IntWalk.wrap64_in _ (by have := c.toNat_lt; omega)
theorem out_facts {B : Bd} {g T : Nat} {w w1 : World} {st : Int} {m : Rs.M} {mv ov : Value} {nq n : Nat} {xs : List Value} {cs : Array Value} {v0 : Value} {t : TypeId} {o : Obj} (h : MSt B w g T st m mv ov) (hne : ov.ownBlock ≠ some g) (hown : w.ownsRow B 5 1 ov n xs) (hlt : g < w.heap.size)
    (hgr : (((w.alloc (.cells (#[v0] ++ cs) t)).drewN nq).alloc o).grownBy w1 ov.ownBlock) :
    w1.cell? ⟨g, 3, none⟩ = some (.int .i64 m.steps) ∧ w1.cell? ⟨g, 4, none⟩ = some (.int .i64 m.pc) ∧ w1.cell? ⟨g, 39, none⟩ = some ov ∧ w1.frozen? ⟨g, 3, none⟩ = false ∧ w1.frozen? ⟨g, 4, none⟩ = false ∧ w1.frozen? ⟨g, 39, none⟩ = false ∧
    w1.cell? ⟨w.heap.size, 0, none⟩ = some v0 ∧ w.heap.size + 1 < w1.heap.size := by
  have H3 := ((h.alloc (.cells (#[v0] ++ cs) t)).drewN nq).alloc o
  have hk : w1.heap[g]? = _ := hgr.block g H3.lt (fun e => hne e.symm)
  refine ⟨(World.cell?_of_block (a := ⟨g, 3, none⟩) hk).trans H3.c3, (World.cell?_of_block (a := ⟨g, 4, none⟩) hk).trans H3.c4, (World.cell?_of_block (a := ⟨g, 39, none⟩) hk).trans H3.c39, (World.frozen?_of_block (a := ⟨g, 3, none⟩) hk).trans (H3.fz 3), (World.frozen?_of_block (a := ⟨g, 4, none⟩) hk).trans (H3.fz 4), (World.frozen?_of_block (a := ⟨g, 39, none⟩) hk).trans (H3.fz 39), ?_, ?_⟩
  · refine hgr.cell (a := ⟨w.heap.size, 0, none⟩) ?_ (by intro e; exact absurd (hown.lt _ e.symm).2 (Nat.lt_irrefl _))
    have h1 : (w.alloc (.cells (#[v0] ++ cs) t)).cell? ⟨w.heap.size, 0, none⟩ = some v0 := cell_new w (#[v0] ++ cs) 0 v0 (by rw [Array.getElem?_append_left (by simp)]; rfl)
    have h2 : ((w.alloc (.cells (#[v0] ++ cs) t)).drewN nq).cell? ⟨w.heap.size, 0, none⟩ = some v0 := h1
    exact (World.cell?_of_block (a := ⟨w.heap.size, 0, none⟩) (((Below.refl ((w.alloc (.cells (#[v0] ++ cs) t)).drewN nq).heap.size _).alloc (Nat.le_refl _) o).block w.heap.size (by rw [World.heap_drewN]; simp))).trans h2
  · have := hgr.size
    simp at this
    omega
theorem infoB : (Try.prog.info? 5).map (fun i => (i.zero, i.size, i.bytes)) = some (some (.int .u8 0), 1, 1) := by kernel_rfl

theorem form_simp {op : Int} (h1 : 15 ≤ op) (h2 : op ≤ 21) : Rs.form op ≠ 1 ∧ Rs.form op ≠ 4 := by
  unfold Rs.form
  rw [if_neg (by omega), if_neg (by omega)]
  split
  · omega
  · rw [if_pos (by omega)]; omega

end Go.Proofs.Ytbcpflogkniojaa
/- A step of the machine. -/
namespace Go.Proofs.Ytbcpflogkniojaa
open Go.RowKit
set_option linter.unusedSimpArgs false
set_option linter.unusedVariables false
theorem decB_not_bad {x : Int} (h : Rs.decB x = true) : ¬ Rs.Bad (Rs.fO x) (Rs.fA x) (Rs.fB (Rs.fO x) x) (Rs.fC (Rs.fO x) x) (Rs.fN (Rs.fO x) x) := by
  have h2 := (of_decide_eq_true h).1
  intro hb
  rw [show Rs.encE _ _ _ _ _ = 200 from if_pos hb] at h2
  exact absurd h2 (by decide)
theorem op_not_bad {op a b c n : Int} (h : ¬ Rs.Bad op a b c n) : 0 ≤ op ∧ op ≤ 31 := by
  unfold Rs.Bad at h
  rw [not_or] at h
  exact Rs.form_range op h.1
theorem n_not_bad {op a b c n : Int} (h : ¬ Rs.Bad op a b c n) : -1048576 ≤ n ∧ n ≤ 1048575 ∧ (op = 18 ∨ op = 19 → 0 ≤ n ∧ n < 64) := by
  obtain ⟨h1, h2⟩ := op_not_bad h
  obtain ⟨k, rfl⟩ : ∃ k : Nat, op = k := ⟨op.toNat, by omega⟩
  obtain ⟨_, _, _, h3, h4⟩ := good_cases (form7_not ⟨h1, h2⟩) h
  obtain ⟨⟨r1, r2⟩, -⟩ := Rs.ends_range k (by omega)
  refine ⟨by omega, by omega, fun h5 => ?_⟩
  rcases h5 with h5 | h5 <;> rw [h5] at h3 h4 <;> exact ⟨h3, Int.lt_add_one_of_le h4⟩
end Go.Proofs.Ytbcpflogkniojaa
/- Run's contract. -/
namespace Go.Proofs.Ytbcpflogkniojaa
open Go.RowKit
set_option linter.unusedVariables false
set_option linter.unusedSimpArgs false
def u32s (code : List Int) : List Value := code.map (Value.int .u32)
def i64s (l : List Int) : List Value := l.map (Value.int .i64)
theorem u32_at {w : World} {b off : Nat} {code : List Int} (h : ∀ j, j < (u32s code).length → w.cell? ⟨b, off + j, none⟩ = some ((u32s code).getD j undef)) {j : Nat} (hj : j < code.length) :
    w.cell? ⟨b, off + j, none⟩ = some (.int .u32 (code.getD j 0)) := by
  rw [h j (by simpa [u32s] using hj)]
  congr 1
  simp [u32s, List.getD_eq_getElem?_getD, List.getElem?_map, List.getElem?_eq_getElem hj]

theorem getD_mem {l : List Int} {i : Nat} (h : i < l.length) : l.getD i 0 ∈ l := by
  rw [List.getD_eq_getElem?_getD, List.getElem?_eq_getElem h]
  exact List.getElem_mem h
theorem inv_next {code : List Int} {lim x : Int} {m : Rs.M} (h : Rs.Inv code lim m) (hl : m.steps < lim) (hp : 0 ≤ m.pc ∧ m.pc ≤ 1048576) (hx : Rs.decB x = true) (h6 : (Rs.execW x m).2 = 6) : Rs.Inv code lim (Rs.execW x m).1 := by
  have hn := n_not_bad (decB_not_bad hx)
  obtain ⟨s1, s2⟩ := Rs.exec_steps h6
  refine ⟨Rs.exec_ok h.ok hp (by unfold Rs.InR; omega), ?_, ?_, ?_⟩
  · show 0 ≤ (Rs.exec _ _ _ _ _ m).1.steps
    rw [s1]; have := h.s0; omega
  · show (Rs.exec _ _ _ _ _ m).1.steps ≤ lim
    rw [s1]; omega
  · show ((Rs.exec _ _ _ _ _ m).1.out.length : Int) ≤ (Rs.exec _ _ _ _ _ m).1.steps
    rw [s1]; have := h.out; omega

end Go.Proofs.Ytbcpflogkniojaa
/- Run's contract, whole. -/
namespace Go.Proofs.Ytbcpflogkniojaa
open Go.RowKit
set_option linter.unusedVariables false
set_option linter.unusedSimpArgs false
namespace Rs
def zero : M := ⟨0, 0, 0, List.replicate 32 0, [], [], []⟩
/-- A run, an image that is none with it. -/
def runI (code mem : List Int) (words : Int) (inp : List UInt8) (steps : Int) : M × Int := if noImage code mem words steps then (zero, 7) else run code mem words inp steps
end Rs
theorem haltSize : (Try.prog.info? 44).map (·.size) = some 38 := by kernel_rfl
/-- What is told of an image that is none. -/
def halt7 : Array Value := (Rs.halt 7 Rs.zero (.slice none 0 0)).toArray
theorem halt7_size : halt7.size = 38 := by decide
theorem halt7_one : ∀ v ∈ halt7.toList, v.oneCell' = true := halt_one' rfl
theorem built7 : Try.prog.built 44 [(0, .int .i64 7)] = some halt7 := by kernel_rfl
theorem wpList_build7 {ops : Array Oper} {rest : List Oper} {o : Oper} {a : Act} {w : World} {Q : Exit → Act → World → Prop} (hg : o.guard = none) (ho : o.op = .build 44 #[(0, .const (.int .i64 7))])
    (h : wpList Try.prog ops Q rest (a.put o.dst (.agg halt7)) w) : wpList Try.prog ops Q (o :: rest) a w := by
  have e : Try.prog.built 44 ((#[(0, Operand.const (.int .i64 7))].map fun (i, x) => (i, a.eval x)).toList) = some halt7 := by
    rw [show ((#[(0, Operand.const (.int .i64 7))].map fun (i, x) => (i, a.eval x)).toList) = [(0, .int .i64 7)] by simp [Act.eval]]
    exact built7
  refine wpList_build hg _ _ ho (by rw [e]; rfl) ?_
  rw [e]
  exact h
theorem run_no_end {w w' : World} (hb : Below w.heap.size w w') : RunYes (Rs.zero, 7) w (.returned (.agg halt7)) w' := ⟨_, rfl, World.ownsRow_nil _ _ _ _, hb⟩
theorem hst7 (w : World) (g t : Nat) (old : Array Value) (hg : w.heap[g]? = some (.cells old t (0, 0))) (ho : old.size = 38) : (storeCells ⟨g, 0, none⟩ halt7.toList).run Try.prog w = .ok () (w.setRow g halt7) := by
  have := store_all (P := Try.prog) w g t old halt7.toList hg (by rw [ho, Array.length_toList, halt7_size]) halt7_one
  simpa using this
end Go.Proofs.Ytbcpflogkniojaa
