/- The laws' plain facts of assembly. -/
import Derived.Test.YtbcpflogkniojaaAsmFx
import Derived.Test.YtbcpflogkniojaaAsmO2
import Derived.Test.YtbcpflogkniojaaRiscRDec
import Derived.Test.YtbcpflogkniojaaRiscLaw
namespace Go.Proofs.Ytbcpflogkniojaa
open Go.RowKit
set_option linter.unusedVariables false
set_option linter.unusedSimpArgs false
theorem rdecode_enc {op a b c n : Int} (h : ¬ Rs.Bad op a b c n) (w : World) : Calls Try.prog 12 #[.int .u32 (Rs.enc op a b c n)] w fun e w' =>
    e = .returned (.tuple #[.agg #[.int .i64 op, .int .i64 a, .int .i64 b, .int .i64 c, .int .i64 n], .bool true]) ∧ Below w.heap.size w w' := by
  obtain ⟨h1, h2, h3, h4, h5, h6, h7⟩ := Rs.enc_fields h
  have hd := Rs.dec_enc h
  refine (rdecode_any _ w h1 h2).mono ?_
  rintro e w' ⟨rfl, hb⟩
  rw [decV, if_pos hd, hd, h3, h4, h5, h6, h7]
  exact ⟨rfl, hb⟩
/-- What assembling answers where nothing is wrong. -/
theorem AsmPost.ok {w w' : World} {l : List As.It} {e : Ending} (h : AsmPost w l e w') (he : As.err l = 0) : Below w.heap.size w w' ∧ ∃ (ac ap : Option Addr) (cc cp : Nat), e = .returned (.tuple #[.slice ac (As.code l).length cc, .slice ap l.length cp, .int .i64 0]) ∧ Sl w' (.slice ac (As.code l).length cc) ((As.code l).map (Value.int .u32)) ∧ Sl w' (.slice ap l.length cp) (nums (As.places0 l)) := by
  obtain ⟨hb, h⟩ := h
  refine ⟨hb, ?_⟩
  rw [if_pos he] at h
  obtain ⟨vc, vp, rfl, h1, h2⟩ := h
  obtain ⟨ac, cc, rfl⟩ := h1.len
  obtain ⟨ap, cp, rfl⟩ := h2.len
  rw [List.length_map] at h1
  have hl : (nums (As.places0 l)).length = l.length := by rw [nums, List.length_map, As.places0_length]
  rw [hl] at h2
  refine ⟨ac, ap, cc, cp, ?_, h1, h2⟩
  rw [List.length_map, hl]
theorem AsmPost.bad {w w' : World} {l : List As.It} {e : Ending} (h : AsmPost w l e w') (he : As.err l ≠ 0) : Below w.heap.size w w' ∧ e = .returned (.tuple #[.slice none 0 0, .slice none 0 0, .int .i64 (As.err l)]) := by
  obtain ⟨hb, h⟩ := h
  rw [if_neg he] at h
  exact ⟨hb, h⟩
/-- Where labels stand. -/
def As.labs (l : List As.It) (k : Nat) : List Nat := (List.range k).filter fun i => match l[i]? with
  | some x => decide (x.kind = 1)
  | none => false
theorem As.labs_succ {l : List As.It} {k : Nat} {x : As.It} (hx : l[k]? = some x) : As.labs l (k + 1) = As.labs l k ++ (if x.kind = 1 then [k] else []) := by
  unfold As.labs
  rw [List.range_succ, List.filter_append]
  congr 1
  by_cases h : x.kind = 1 <;> simp [hx, h]
theorem As.labs_mem {l : List As.It} {k i : Nat} : i ∈ As.labs l k ↔ i < k ∧ ∃ x, l[i]? = some x ∧ x.kind = 1 := by
  unfold As.labs
  rw [List.mem_filter, List.mem_range]
  cases hx : l[i]? <;> simp
theorem As.labs_length (l : List As.It) (k : Nat) : (As.labs l k).length ≤ k := by
  unfold As.labs
  have := List.length_filter_le (fun i => match l[i]? with
  | some x => decide (x.kind = 1)
  | none => false) (List.range k)
  simpa using this
/-- The label's place, as far as it is found. -/
def As.toN (l : List As.It) (t j : Nat) : Int := if t ∈ (As.labs l l.length).take j then (As.pl l (As.longs l) t : Nat) else -1
theorem As.toN_step {l : List As.It} (hg : As.Good l) {x : As.It} {t j q : Nat} {y : As.It} (ht : As.find x.label l = some t) (hq : (As.labs l l.length)[j]? = some q) (hy : l[q]? = some y) :
    As.toN l t (j + 1) = if y.label = x.label then ((As.pl l (As.longs l) q : Nat) : Int) else As.toN l t j := by
  obtain ⟨z, hz, hzl⟩ := As.find_some _ _ _ ht
  have hqm := As.labs_mem.1 (List.mem_of_getElem? hq)
  obtain ⟨-, y', hy', hk'⟩ := hqm
  rw [hy] at hy'
  injection hy' with hy'
  subst hy'
  simp only [As.isLabel, Bool.and_eq_true, decide_eq_true_eq] at hzl
  have key : y.label = x.label ↔ q = t := by
    constructor
    · intro e
      exact hg.once q t y z hy hz hk' hzl.1 (by rw [e, hzl.2])
    · intro e
      subst e
      rw [hy] at hz
      injection hz with hz
      rw [hz, hzl.2]
  unfold As.toN
  rw [List.take_add_one, hq]
  by_cases e : q = t
  · rw [if_pos (key.2 e), if_pos (by simp [e]), e]
  · rw [if_neg (fun h => e (key.1 h))]
    have : (t ∈ (As.labs l l.length).take j ++ (some q).toList) ↔ t ∈ (As.labs l l.length).take j := by
      simp only [List.mem_append, Option.toList_some, List.mem_singleton]
      exact ⟨fun h => h.resolve_right (fun h => e h.symm), .inl⟩
    simp only [this]
theorem As.toN_full {l : List As.It} {x : As.It} {t : Nat} (ht : As.find x.label l = some t) : As.toN l t (As.labs l l.length).length = (As.pl l (As.longs l) t : Nat) := by
  obtain ⟨z, hz, hzl⟩ := As.find_some _ _ _ ht
  simp only [As.isLabel, Bool.and_eq_true, decide_eq_true_eq] at hzl
  unfold As.toN
  rw [List.take_length, if_pos (As.labs_mem.2 ⟨As.find_lt ht, z, hz, hzl.1⟩)]
def idx (l : List Nat) : List Value := l.map fun (i : Nat) => Value.int .i64 (i : Int)
theorem getD_u32 (cs : List Int) {j : Nat} (h : j < cs.length) : (cs.map (Value.int .u32)).getD j undef = .int .u32 (cs.getD j 0) := by
  simp [List.getD_eq_getElem?_getD, h]
theorem nums_getD {ps : List Nat} {j p : Nat} (h : ps[j]? = some p) : (nums ps).getD j undef = .int .i64 (p : Int) := by
  simp [nums, List.getD_eq_getElem?_getD, h]
end Go.Proofs.Ytbcpflogkniojaa
