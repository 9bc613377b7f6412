/- copy at rows of structs. -/
import Derived.Test.YthbnhneibpoooaaRows
import Derived.WalkKit
import Derived.Laws.CopyOwn
import Derived.Laws.MakeOwn
import Derived.Test.YthbnhneibpoooaaQMB
import Derived.Test.YthbnhneibpoooaaQMA
import Derived.Deep.RegionLaw
import Derived.Outline
set_option linter.unusedVariables false
set_option linter.unusedSimpArgs false
set_option linter.unnecessarySimpa false
namespace Go.Proofs.Ythbnhneibpoooaa
open Go.RowKit
set_option linter.unusedVariables false
set_option linter.unusedSimpArgs false
section
variable {P : Program} (w : World)
theorem run_copy_size (dT sT ty elem : TypeId) (sz k : Nat) (g o dLen dCap : Nat) (a : Addr) (sLen sCap : Nat) (cur : Array Value) (t : TypeId) (cs : List Value)
    (hu : P.underlying dT = some (.slice elem)) (hs : (P.info? elem).map (·.size) = some sz)
    (hg : w.heap[g]? = some (.cells cur t (0, 0))) (hk : k = Nat.min sLen dLen) (hn : cs.length = k * sz)
    (hsrc : ∀ j v, cs[j]? = some v → w.cell? (a.add j) = some v) (hfit : o + cs.length ≤ cur.size) (h1 : ∀ v ∈ cs, v.oneCell' = true) :
    (Builtin.copy_ #[dT, sT] ty #[.slice (some ⟨g, o, none⟩) dLen dCap, .slice (some a) sLen sCap]).run P w =
      .ok (goInt k) (w.setRow g (cur.toList.take o ++ cs ++ cur.toList.drop (o + cs.length)).toArray) := by
  have hl := run_loadCells_list (P := P) w a cs hsrc
  have hst := run_storeCells_at P g o t cs 0 cur w hg (by simpa using hfit) h1
  cases hq : P.info? elem with
  | none => simp [hq] at hs
  | some i =>
    have hi : i.size = sz := by simpa [hq] using hs
    subst hk
    rw [hn] at hl
    simp [Builtin.copy_, run_underlying hu, Builtin.lenOf, Builtin.firstCells, sizeOf, typeInfo, hq, hi, hl, hst]
end
theorem wpList_copy_size {P : Program} {w : World} {ops : Array Oper} {rest : List Oper} {o : Oper} {a : Act} {Q : Exit → Act → World → Prop} (hgd : o.guard = none) (d s : Operand) (dT sT : TypeId)
    (ho : o.op = .call { callee := .builtin .copy, args := #[d, s], argTypes := #[dT, sT] }) (elem : TypeId) (hu : P.underlying dT = some (.slice elem)) (sz k : Nat) (hsz : (P.info? elem).map (·.size) = some sz)
    (g off dLen dCap : Nat) (ad : Addr) (sLen sCap : Nat) (hd : a.eval d = .slice (some ⟨g, off, none⟩) dLen dCap) (hs : a.eval s = .slice (some ad) sLen sCap)
    (cur : List Value) (t : TypeId) (hg : w.heap[g]? = some (.cells cur.toArray t (0, 0))) (cs : List Value) (hk : k = Nat.min sLen dLen) (hn : cs.length = k * sz)
    (hsrc : ∀ j v, cs[j]? = some v → w.cell? (ad.add j) = some v) (hfit : off + cs.length ≤ cur.length) (h1 : ∀ v ∈ cs, v.oneCell' = true) (B : Nat) (w0 : World) (hb : Below B w0 w) (hBg : B ≤ g)
    (h : ∀ w', Hid (w'.heap[g]? = some (.cells (splice cur off cs).toArray t (0, 0))) → Below B w0 w' → wpList P ops Q rest (a.put o.dst (goInt k)) w') : wpList P ops Q (o :: rest) a w := by
  refine wpList_plain hgd fun K hK => ?_
  have hrun := run_copy_size (P := P) w dT sT o.type elem sz k g off dLen dCap ad sLen sCap cur.toArray t cs hu hsz hg hk hn hsrc (by simpa using hfit) h1
  unfold Oper.wp
  simp [execOp, ho, resolve, invoke, builtin, hd, hs, hrun, Result.andThen]
  exact hK _ _ (h _ (show _ = _ by simpa [splice] using setRow_heap w g _ _ t _ hg) (below_setRow hb hBg _))
theorem step_copy_size {P : Program} {ops : Array Oper} {o : Oper} {a : Act} {w : World} {K : Act → World → Prop} {Q : Exit → Act → World → Prop} {E : Prop} (hgd : o.guard = none) (d s : Operand) (dT sT : TypeId)
    (ho : o.op = .call { callee := .builtin .copy, args := #[d, s], argTypes := #[dT, sT] }) (elem : TypeId) (hu : P.underlying dT = some (.slice elem)) (sz k : Nat) (hsz : (P.info? elem).map (·.size) = some sz)
    (g off dLen dCap : Nat) (ad : Addr) (sLen sCap : Nat) (hd : a.eval d = .slice (some ⟨g, off, none⟩) dLen dCap) (hs : a.eval s = .slice (some ad) sLen sCap)
    (cur : List Value) (t : TypeId) (hg : w.heap[g]? = some (.cells cur.toArray t (0, 0))) (cs : List Value) (hk : k = Nat.min sLen dLen) (hn : cs.length = k * sz)
    (hsrc : ∀ j v, cs[j]? = some v → w.cell? (ad.add j) = some v) (hfit : off + cs.length ≤ cur.length) (h1 : ∀ v ∈ cs, v.oneCell' = true) (B : Nat) (w0 : World) (hb : Below B w0 w) (hBg : B ≤ g)
    (h : ∀ w', Hid (w'.heap[g]? = some (.cells (splice cur off cs).toArray t (0, 0))) → Below B w0 w' → K (a.put o.dst (goInt k)) w') :
    if Region.wanted o (yielded ops a.tmps) = true then Oper.wp P o a w K Q else E := by
  have hw : Region.wanted o (yielded ops a.tmps) = true := by simp [Region.wanted, hgd]
  rw [if_pos hw]
  have hrun := run_copy_size (P := P) w dT sT o.type elem sz k g off dLen dCap ad sLen sCap cur.toArray t cs hu hsz hg hk hn hsrc (by simpa using hfit) h1
  unfold Oper.wp
  simp [execOp, ho, resolve, invoke, builtin, hd, hs, hrun, Result.andThen]
  exact h _ (show _ = _ by simpa [splice] using setRow_heap w g _ _ t _ hg) (below_setRow hb hBg _)
end Go.Proofs.Ythbnhneibpoooaa
/- slices.Repeat of one value. -/
namespace Go.Proofs.Ythbnhneibpoooaa
open Go.RowKit
set_option linter.unusedVariables false
set_option linter.unusedSimpArgs false
theorem mul_any (x y : Nat) (hx : x < 18446744073709551616) (hy : y < 18446744073709551616) (w : World) :
    Calls Try.prog 89 #[.int .u64 x, .int .u64 y] w fun e w' => e = .returned (.tuple #[.int .u64 ((x * y / 18446744073709551616 : Nat) : Int), .int .u64 ((x * y % 18446744073709551616 : Nat) : Int)]) ∧ w' = w := by
  go_enter Try.func89, Try.ntmps89
  go_wp2_with (go_at_call 88; refine (mul64_any x y hx hy _).mono ?_; rintro e w' ⟨rfl, rfl⟩)
  go_ret2
  exact ⟨rfl, rfl⟩
theorem valSizeR : (Try.prog.info? 27).map (·.size) = some 3 := by kernel_rfl
theorem flatV_replicate_length (n : Nat) (v : Hp.V) : (Hp.flatV (List.replicate n v)).length = n * 3 := by rw [Hp.flatV_length, List.length_replicate]
theorem madeCells_zero (n : Nat) : madeCells #[.int .i64 0, .int .i64 0, .string ⟨#[]⟩] (n * 3) = (Hp.flatV (List.replicate n Hp.none)).toArray := by
  apply Array.ext
  · rw [size_madeCells, List.size_toArray, flatV_replicate_length]
  · intro i h1 h2
    rw [size_madeCells] at h1
    have hj : i / 3 < n := by omega
    have hl : (List.replicate n Hp.none)[i / 3]? = some Hp.none := by rw [List.getElem?_replicate, if_pos hj]
    obtain ⟨f0, f1, f2⟩ := Hp.flatV_at _ _ _ hl
    have hr : ∀ u, (Hp.flatV (List.replicate n Hp.none))[i]? = some u → (Hp.flatV (List.replicate n Hp.none)).toArray[i] = u := fun u hu => by
      rw [List.getElem_toArray]
      exact (List.getElem?_eq_some_iff.1 hu).2
    rcases (by omega : i = i / 3 * 3 ∨ i = i / 3 * 3 + 1 ∨ i = i / 3 * 3 + 2) with e | e | e
    · rw [hr (.int .i64 0) (by rw [e]; exact f0)]
      have : i % 3 = 0 := by omega
      simp [madeCells, this]
    · rw [hr (.int .i64 0) (by rw [e]; exact f1)]
      have : i % 3 = 1 := by omega
      simp [madeCells, this]
    · rw [hr (.string ⟨#[]⟩) (by rw [e]; exact f2)]
      have : i % 3 = 2 := by omega
      simp [madeCells, this]
theorem make_vals (q : Nat) (h : q ≤ 1048576) (w : World) : (Instr.makeSlice 32 (.int .i64 q) (.int .i64 q)).run Try.prog w = .ok (.slice (some ⟨w.heap.size, 0, none⟩) q q) (w.alloc (.cells (Hp.flatV (List.replicate q Hp.none)).toArray 27)) := by
  obtain ⟨i, hi, hz, hs, hb⟩ := info_parts infoVal
  have := run_make (P := Try.prog) w _ _ i _ Try.underlying32 hi hz .i64 .i64 q q (by omega) (Int.le_refl _) (by rw [hb]; omega) (by omega)
  rw [hs] at this
  simp only [Int.toNat_natCast] at this
  rw [← madeCells_zero]
  exact this
/-- A row whose first k are filled. -/
def part3 (n k : Nat) (v : Hp.V) : List Value := Hp.flatV (List.replicate k v ++ List.replicate (n - k) Hp.none)
theorem part3_length (n k : Nat) (v : Hp.V) (h : k ≤ n) : (part3 n k v).length = n * 3 := by
  unfold part3
  rw [Hp.flatV_length, List.length_append, List.length_replicate, List.length_replicate]
  omega
theorem flatV_take (l : List Hp.V) (k : Nat) : (Hp.flatV l).take (k * 3) = Hp.flatV (l.take k) := by
  induction l generalizing k with
  | nil => simp [Hp.flatV]
  | cons x l ih =>
    cases k with
    | zero => simp [Hp.flatV]
    | succ k =>
      have e : ∀ (y : Hp.V) (l : List Hp.V), Hp.flatV (y :: l) = .int .i64 y.kind :: .int .i64 y.int :: .string y.text :: Hp.flatV l := fun _ _ => rfl
      rw [List.take_succ_cons, e, e, ← ih k, show (k + 1) * 3 = k * 3 + 1 + 1 + 1 by omega]
      simp only [List.take_succ_cons]
theorem flatV_drop (l : List Hp.V) (k : Nat) : (Hp.flatV l).drop (k * 3) = Hp.flatV (l.drop k) := by
  induction l generalizing k with
  | nil => simp [Hp.flatV]
  | cons x l ih =>
    cases k with
    | zero => simp [Hp.flatV]
    | succ k =>
      have e : ∀ (y : Hp.V) (l : List Hp.V), Hp.flatV (y :: l) = .int .i64 y.kind :: .int .i64 y.int :: .string y.text :: Hp.flatV l := fun _ _ => rfl
      rw [List.drop_succ_cons, e, ← ih k, show (k + 1) * 3 = k * 3 + 1 + 1 + 1 by omega]
      simp only [List.drop_succ_cons]
theorem part3_step (n k c : Nat) (v : Hp.V) (h : k + c ≤ n) : splice (part3 n k v) (k * 3) (Hp.flatV (List.replicate c v)) = part3 n (k + c) v := by
  unfold splice part3
  rw [flatV_replicate_length, ← Nat.add_mul, flatV_take, flatV_drop, ← Hp.flatV_append, ← Hp.flatV_append]
  congr 1
  rw [List.take_append_of_le_length (by simp), List.take_of_length_le (by simp), List.drop_append, List.drop_of_length_le (by simp), List.nil_append, List.length_replicate, List.drop_replicate, ← List.append_assoc, List.replicate_append_replicate]
  congr 2
  omega
end Go.Proofs.Ythbnhneibpoooaa
