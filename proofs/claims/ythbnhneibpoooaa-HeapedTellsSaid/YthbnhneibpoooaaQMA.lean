/- Names, plainly. -/
import Derived.Test.YthbnhneibpoooaaQFrame
import Derived.WalkKit
import Derived.Lib.Mul64
import Derived.Test.YthbnhneibpoooaaRows
import Derived.Lib.Hide
import Derived.Deep.Draws
import Derived.Laws.Rows
import Derived.Laws.OwnMore
import Derived.Laws.AppendOwn
import Derived.Deep.MidRow
import Derived.Lib.Bytealg
import Derived.Deep.LoopGhost
import Derived.WalkSpells
import Derived.Laws.Bits64b
set_option linter.unusedVariables false
set_option linter.unusedSimpArgs false
set_option linter.unnecessarySimpa false
namespace Go.Proofs.Ythbnhneibpoooaa
open Go.RowKit
set_option linter.unusedVariables false
set_option linter.unusedSimpArgs false
namespace Nm
def digitB (c : Int) : Bool := decide (48 ≤ c) && decide (c ≤ 57)
def signL : List Int := [33, 36, 37, 38, 42, 47, 58, 60, 61, 62, 63, 94, 95, 126, 43, 45, 46, 64]
/-- May a byte stand in a name? -/
def byteB (c : Int) : Bool := digitB c || (decide (97 ≤ c) && decide (c ≤ 122)) || (decide (65 ≤ c) && decide (c ≤ 90)) || signL.contains c
def bytesI (s : ByteArray) : List Int := s.data.toList.map fun (b : UInt8) => (b.toNat : Int)
/-- Behind a sign. -/
def unsigned : List Int → List Int
  | c :: l => if c = 43 ∨ c = 45 then l else c :: l
  | [] => []
def numL (l : List Int) : Bool := (unsigned l).all digitB && !(unsigned l).isEmpty
def nameL (l : List Int) : Bool := l.all byteB && !l.isEmpty && decide (l.length ≤ 64) && !decide (l = [46]) && !numL l
def nameB (s : ByteArray) : Bool := nameL (bytesI s)
theorem bytesI_length (s : ByteArray) : (bytesI s).length = s.size := by simp [bytesI]
theorem bytesI_get (s : ByteArray) {k : Nat} (h : k < s.size) : (bytesI s)[k]? = some ((s[k].toNat : Nat) : Int) := by
  have h' : k < s.data.toList.length := by simpa using h
  rw [bytesI, List.getElem?_map, List.getElem?_eq_getElem h']
  rfl
theorem bytesI_inj {s t : ByteArray} (h : bytesI s = bytesI t) : s = t := by
  have hl : s.data.toList = t.data.toList := by
    have inj : ∀ (a b : List UInt8), a.map (fun (b : UInt8) => (b.toNat : Int)) = b.map (fun (b : UInt8) => (b.toNat : Int)) → a = b := by
      intro a
      induction a with
      | nil => intro b h; cases b with
        | nil => rfl
        | cons => simp at h
      | cons x a ih => intro b h; cases b with
        | nil => simp at h
        | cons y b =>
          simp only [List.map_cons, List.cons.injEq] at h
          have e : x = y := UInt8.toNat_inj.1 (by have := h.1; omega)
          rw [ih b h.2, e]
    exact inj _ _ h
  cases s; cases t
  congr
  exact Array.toList_inj.1 hl
end Nm
end Go.Proofs.Ythbnhneibpoooaa
/- Plain arithmetic of tagged words (layer 1): what the Go functions of package word compute. -/
namespace Go.Proofs.Ythbnhneibpoooaa

def isN (n : Int) : Bool := decide (-1152921504606846976 ≤ n ∧ n ≤ 1152921504606846975)

theorem isN_true {n : Int} (h : -1152921504606846976 ≤ n ∧ n ≤ 1152921504606846975) : isN n = true := by unfold isN; simpa using h
theorem isN_false {n : Int} (h : n < -1152921504606846976 ∨ 1152921504606846975 < n) : isN n = false := by
  unfold isN; rw [decide_eq_false_iff_not]; omega
theorem isN_iff {n : Int} : isN n = true ↔ (-1152921504606846976 ≤ n ∧ n ≤ 1152921504606846975) := by unfold isN; simp

theorem i64_and7 (n : Int) : bits .and .i64 n 7 = n % 8 := by
  have h7 : (BitVec.ofInt 64 7).toNat = 2 ^ 3 - 1 := by decide
  have key : (BitVec.ofInt 64 n &&& BitVec.ofInt 64 7).toNat = (n % ((2 ^ 64 : Nat) : Int)).toNat % 2 ^ 3 := by
    rw [BitVec.toNat_and, BitVec.toNat_ofInt, h7, Nat.and_two_pow_sub_one_eq_mod]
  show IntKind.i64.wrap ((BitVec.ofInt 64 n &&& BitVec.ofInt 64 7).toNat : Nat) = n % 8
  rw [key, IntKind.wrap_i64]
  omega

theorem i64_or8 (x t : Int) (h1 : -9223372036854775808 ≤ x * 8) (h2 : x * 8 ≤ 9223372036854775807) (h3 : 0 ≤ t) (h4 : t < 8) :
    bits .or .i64 (x * 8) t = 8 * x + t := by
  have ht : (BitVec.ofInt 64 t).toNat = t.toNat := by rw [BitVec.toNat_ofInt]; omega
  have hx : (BitVec.ofInt 64 (x * 8)).toNat = 2 ^ 3 * ((x * 8) % ((2 ^ 64 : Nat) : Int) / 8).toNat := by rw [BitVec.toNat_ofInt]; omega
  show IntKind.i64.wrap ((BitVec.ofInt 64 (x * 8) ||| BitVec.ofInt 64 t).toNat : Nat) = 8 * x + t
  rw [BitVec.toNat_or, ht, hx, ← Nat.two_pow_add_eq_or_of_lt (by omega), IntKind.wrap_i64]
  omega

/-- What Reckon answers: number and error. -/
def rk (op a b : Int) : Int × Int :=
  if op < 0 ∨ 4 < op then (0, 1)
  else if a % 8 ≠ 0 ∨ b % 8 ≠ 0 then (0, 12)
  else if op = 0 then (if isN (a / 8 + b / 8) then (8 * (a / 8 + b / 8), 0) else (0, 10))
  else if op = 1 then (if isN (a / 8 - b / 8) then (8 * (a / 8 - b / 8), 0) else (0, 10))
  else if op = 2 then (if isN (a / 8 * (b / 8)) then (8 * (a / 8 * (b / 8)), 0) else (0, 10))
  else if b / 8 = 0 then (0, 11)
  else if op = 3 then (if isN ((a / 8).tdiv (b / 8)) then (8 * ((a / 8).tdiv (b / 8)), 0) else (0, 10))
  else (8 * ((a / 8).tmod (b / 8)), 0)

end Go.Proofs.Ythbnhneibpoooaa
/- The heap, plainly. -/
namespace Go.Proofs.Ythbnhneibpoooaa
open Go.RowKit
set_option linter.unusedVariables false
set_option linter.unusedSimpArgs false
namespace Hp
/-- A value. -/
structure V where
  kind : Int
  int : Int
  text : ByteArray
deriving DecidableEq
def V.cells (v : V) : List Value := [.int .i64 v.kind, .int .i64 v.int, .string v.text]
def V.val (v : V) : Value := .agg #[.int .i64 v.kind, .int .i64 v.int, .string v.text]
def flatV (l : List V) : List Value := l.flatMap V.cells
def none : V := ⟨0, 0, ⟨#[]⟩⟩
def num (n : Int) : V := ⟨1, n, ⟨#[]⟩⟩
def truth (b : Bool) : V := ⟨0, if b then 1 else 0, ⟨#[]⟩⟩
def void : V := ⟨5, 0, ⟨#[]⟩⟩
/-- Is a value one of a heap of so many things? -/
def may (n : Nat) (v : V) : Bool :=
  if v.kind = 3 then decide (v.int = 0) && Nm.nameB v.text
  else decide (v.text = ⟨#[]⟩) && (if v.kind = 0 then decide (v.int = 0) || decide (v.int = 1) else if v.kind = 1 then isN v.int else if v.kind = 2 then decide (0 ≤ v.int) && decide (v.int ≤ 255)
    else if v.kind = 4 ∨ v.kind = 5 ∨ v.kind = 6 ∨ v.kind = 7 then decide (v.int = 0) else if v.kind = 8 then decide (0 ≤ v.int) && decide (v.int < n) else false)
/-- A thing. -/
structure Th where
  kind : Int
  parts : List V
deriving DecidableEq
def kindOf (T : List Th) (v : V) : Int := if v.kind = 8 then (match T[v.int.toNat]? with | some t => t.kind | Option.none => -1) else -1
theorem flatV_append (l m : List V) : flatV (l ++ m) = flatV l ++ flatV m := by simp [flatV]
theorem flatV_length : ∀ l : List V, (flatV l).length = l.length * 3
  | [] => rfl
  | v :: l => by
    have e : flatV (v :: l) = v.cells ++ flatV l := rfl
    rw [e, List.length_append, flatV_length l]
    simp [V.cells]
    omega
end Hp
end Go.Proofs.Ythbnhneibpoooaa
/- Small laws on a row of the call's own. -/
namespace Go.Proofs.Ythbnhneibpoooaa
open Go.RowKit

theorem getElem?_getD {α : Type} (l : List α) (i : Nat) (d : α) (h : i < l.length) : l[i]? = some (l.getD i d) := by
  rw [List.getD_eq_getElem?_getD, List.getElem?_eq_getElem h]; rfl

/-- The cells of an owned row. -/
theorem own_cells {w : World} {B e size n cap g : Nat} {xs : List Value} (h : w.ownsRow B e size (.slice (some ⟨g, 0, none⟩) n cap) n xs) :
    ∀ j, j < xs.length → w.cell? ⟨g, j, none⟩ = some (xs.getD j undef) := by
  intro j hj
  have := h.cells (g := g) rfl j (xs.getD j undef) (getElem?_getD xs j undef hj)
  rw [← this]
  unfold Addr.add
  split
  · rename_i h0; subst h0; rfl
  · simp

theorem own_ints {w : World} {B e n cap g : Nat} {zs : List Int} (h : w.ownsRow B e 1 (.slice (some ⟨g, 0, none⟩) n cap) n (zs.map (Value.int .i64))) :
    ∀ j, j < zs.length → w.cell? ⟨g, j, none⟩ = some (.int .i64 (zs.getD j 0)) := by
  intro j hj
  have := own_cells h j (by simpa using hj)
  rw [this]
  congr 1
  rw [List.getD_eq_getElem?_getD, List.getElem?_map, List.getElem?_eq_getElem hj, List.getD_eq_getElem?_getD, List.getElem?_eq_getElem hj]
  rfl

theorem own_shape {w : World} {B e size n : Nat} {v : Value} {xs : List Value} (h : w.ownsRow B e size v n xs) :
    (v = .slice none 0 0 ∧ n = 0 ∧ xs = []) ∨ ∃ g cap, v = .slice (some ⟨g, 0, none⟩) n cap ∧ B ≤ g ∧ g < w.heap.size ∧ n ≤ cap ∧ cap ≤ maxLen := by
  obtain ⟨hl, ⟨rfl, rfl⟩ | ⟨g, cap, cur, rfl, hb, hg, hn, hc, _⟩⟩ := h
  · refine .inl ⟨rfl, rfl, ?_⟩
    rw [Nat.zero_mul] at hl
    exact List.eq_nil_of_length_eq_zero hl
  · exact .inr ⟨g, cap, rfl, hb, (Array.getElem?_eq_some_iff.1 hg).1, hn, hc⟩

theorem own_cap {w : World} {B e size n cap g : Nat} {xs : List Value} (h : w.ownsRow B e size (.slice (some ⟨g, 0, none⟩) n cap) n xs) :
    B ≤ g ∧ g < w.heap.size ∧ n ≤ cap ∧ cap ≤ maxLen := by
  rcases own_shape h with ⟨h, _⟩ | ⟨g', cap', h, r⟩
  · cases h
  · cases h; exact r

theorem heap_new {w : World} {o : Obj} {b : Nat} (h : b = w.heap.size) : (w.alloc o).heap[b]? = some o := h ▸ heap_alloc_new w o
/-- The cells of a block that has just been made. -/
theorem new_cells {b : Nat} {cs : List Value} {t : TypeId} (w' : World) (hb : w'.heap[b]? = some (.cells cs.toArray t (0, 0))) : ∀ j u, cs[j]? = some u → w'.cell? ((⟨b, 0, none⟩ : Addr).add j) = some u := by
  intro j u hu
  have hadd : (⟨b, 0, none⟩ : Addr).add j = ⟨b, j, none⟩ := by unfold Addr.add; split <;> simp_all
  rw [hadd, cell_of_row w' b j _ t (0, 0) hb]
  simpa using hu
theorem own_ne {w : World} {B e size n : Nat} {v : Value} {xs : List Value} (h : w.ownsRow B e size v n xs) : ∀ j, j < B → some j ≠ v.ownBlock :=
  fun j hj e => by have := (h.lt j e.symm).1; omega

theorem own_drewN {w : World} {B e size n : Nat} {v : Value} {xs : List Value} (h : w.ownsRow B e size v n xs) (k : Nat) : (w.drewN k).ownsRow B e size v n xs := h

end Go.Proofs.Ythbnhneibpoooaa
/- The heap in memory. -/
namespace Go.Proofs.Ythbnhneibpoooaa
open Go.RowKit
set_option linter.unusedVariables false
set_option linter.unusedSimpArgs false
namespace Hp
/-- The cells of a row of things, each with the slice of its parts. -/
def thC (M : List (Th × Value)) : List Value := M.flatMap fun m => [.int .i64 m.1.kind, m.2]
theorem thC_length : ∀ M : List (Th × Value), (thC M).length = M.length * 2
  | [] => rfl
  | m :: M => by
    have e : thC (m :: M) = [.int .i64 m.1.kind, m.2] ++ thC M := rfl
    rw [e, List.length_append, thC_length M]
    simp; omega
theorem thC_append (M N : List (Th × Value)) : thC (M ++ N) = thC M ++ thC N := by simp [thC]
theorem thC_at : ∀ (M : List (Th × Value)) (i : Nat) (m : Th × Value), M[i]? = some m → (thC M)[i * 2]? = some (.int .i64 m.1.kind) ∧ (thC M)[i * 2 + 1]? = some m.2
  | [], i, m, h => by simp at h
  | x :: M, 0, m, h => by
    simp at h
    subst h
    exact ⟨rfl, rfl⟩
  | x :: M, i + 1, m, h => by
    have e : thC (x :: M) = .int .i64 x.1.kind :: x.2 :: thC M := rfl
    have h2 : M[i]? = some m := by simpa using h
    have := thC_at M i m h2
    rw [e, show (i + 1) * 2 = i * 2 + 1 + 1 by omega]
    simpa using this
theorem flatV_at : ∀ (l : List V) (i : Nat) (v : V), l[i]? = some v → (flatV l)[i * 3]? = some (.int .i64 v.kind) ∧ (flatV l)[i * 3 + 1]? = some (.int .i64 v.int) ∧ (flatV l)[i * 3 + 2]? = some (.string v.text)
  | [], i, v, h => by simp at h
  | x :: l, 0, v, h => by
    simp at h
    subst h
    exact ⟨rfl, rfl, rfl⟩
  | x :: l, i + 1, v, h => by
    have e : flatV (x :: l) = .int .i64 x.kind :: .int .i64 x.int :: .string x.text :: flatV l := rfl
    have h2 : l[i]? = some v := by simpa using h
    have := flatV_at l i v h2
    rw [e, show (i + 1) * 3 = i * 3 + 1 + 1 + 1 by omega]
    simpa using this
theorem flatV_one (l : List V) : ∀ u ∈ flatV l, u.oneCell' = true := by
  intro u hu
  simp only [flatV, List.mem_flatMap] at hu
  obtain ⟨v, _, hu⟩ := hu
  simp only [V.cells, List.mem_cons, List.not_mem_nil, or_false] at hu
  rcases hu with rfl | rfl | rfl <;> rfl
end Hp
/-- A row whose block is told by its value stays where its block stays. -/
theorem own_same {w w' : World} {B e size n : Nat} {v : Value} {xs : List Value} (h : w.ownsRow B e size v n xs) (hb : ∀ b, v.ownBlock = some b → w'.heap[b]? = w.heap[b]?) : w'.ownsRow B e size v n xs := by
  obtain ⟨h1, h2⟩ := h
  refine ⟨h1, ?_⟩
  rcases h2 with h2 | ⟨g, cap, cur, rfl, r1, r2, r⟩
  · exact .inl h2
  · exact .inr ⟨g, cap, cur, rfl, r1, (hb g rfl).trans r2, r⟩
/-- The heap at block h, exactly. -/
structure HpAt (w : World) (ty h : Nat) (O : Nat → Prop) (vt : Value) (M : List (Hp.Th × Value)) : Prop where
  blk : w.heap[h]? = some (.cells #[vt] ty (0, 0))
  row : w.ownsRow 0 54 2 vt M.length (Hp.thC M)
  parts : ∀ m ∈ M, w.ownsRow 0 27 3 m.2 m.1.parts.length (Hp.flatV m.1.parts)
  ne : vt.ownBlock ≠ some h
  nh : ∀ m ∈ M, m.2.ownBlock ≠ some h
  nr : ∀ m ∈ M, ∀ b, m.2.ownBlock = some b → vt.ownBlock ≠ some b
  apart : M.Pairwise fun a b => ∀ k, a.2.ownBlock = some k → b.2.ownBlock ≠ some k
  own : O h ∧ (∀ b, vt.ownBlock = some b → O b) ∧ ∀ m ∈ M, ∀ b, m.2.ownBlock = some b → O b
  lt : ∀ b, O b → b < w.heap.size
/-- The heap at block h has these things; all its blocks are in O. -/
def HSt (w : World) (ty h : Nat) (O : Nat → Prop) (T : List Hp.Th) : Prop := ∃ vt M, HpAt w ty h O vt M ∧ M.map (·.1) = T
/-- What a call does that may write to the blocks of O and make new ones; O' are the blocks behind it. -/
structure Grow (O O' : Nat → Prop) (w w' : World) : Prop where
  os : w'.os = w.os
  tape : w'.tape = w.tape
  output : w'.output = w.output
  size : w.heap.size ≤ w'.heap.size
  block : ∀ b, b < w.heap.size → ¬ O b → w'.heap[b]? = w.heap[b]?
  own : ∀ b, O' b → O b ∨ w.heap.size ≤ b
theorem Grow.refl (O : Nat → Prop) (w : World) : Grow O O w w := ⟨rfl, rfl, rfl, Nat.le_refl _, fun _ _ _ => rfl, fun _ h => .inl h⟩
theorem Grow.trans {O O' O'' : Nat → Prop} {a b c : World} (h : Grow O O' a b) (k : Grow O' O'' b c) : Grow O O'' a c :=
  ⟨k.os.trans h.os, k.tape.trans h.tape, k.output.trans h.output, Nat.le_trans h.size k.size, fun i hi ho => (k.block i (Nat.lt_of_lt_of_le hi h.size) (fun e => (h.own i e).elim ho (fun e => by omega))).trans (h.block i hi ho),
    fun i hi => (k.own i hi).elim (fun e => h.own i e) (fun e => .inr (Nat.le_trans h.size e))⟩
theorem Grow.of {O : Nat → Prop} {w w' : World} (h : Below w.heap.size w w') : Grow O O w w' := ⟨h.os, h.tape, h.output, h.size, fun b hb _ => h.block b hb, fun _ h => .inl h⟩
theorem Grow.below {O O' : Nat → Prop} {w w' : World} (h : Grow O O' w w') {B : Nat} (hO : ∀ b, O b → B ≤ b) (hB : B ≤ w.heap.size) : Below B w w' := ⟨h.os, h.tape, h.output, h.size, fun b hb => h.block b (by omega) (fun e => by have := hO b e; omega)⟩
theorem Grow.drewN {O O' : Nat → Prop} {w w' : World} (h : Grow O O' w w') (n : Nat) : Grow O O' w (w'.drewN n) := ⟨h.os, h.tape, h.output, h.size, h.block, h.own⟩
section
variable {w : World} {ty h : Nat} {O : Nat → Prop} {vt : Value} {M : List (Hp.Th × Value)} {T : List Hp.Th}
theorem HpAt.lth (H : HpAt w ty h O vt M) : h < w.heap.size := (Array.getElem?_eq_some_iff.1 H.blk).1
theorem HpAt.c0 (H : HpAt w ty h O vt M) : w.cell? ⟨h, 0, none⟩ = some vt := by rw [cell_of_row w h _ _ _ _ H.blk]; rfl
theorem HpAt.fz (H : HpAt w ty h O vt M) : w.frozen? ⟨h, 0, none⟩ = false := frozen_of_row w h 0 _ _ H.blk
theorem HpAt.shape (H : HpAt w ty h O vt M) : ∃ a c, vt = .slice a M.length c := by
  rcases own_shape H.row with ⟨e, e2, _⟩ | ⟨g, c, e, _⟩
  · exact ⟨none, 0, by rw [e, e2]⟩
  · exact ⟨_, c, e⟩
theorem HpAt.keep {w' : World} (H : HpAt w ty h O vt M) (hs : w.heap.size ≤ w'.heap.size) (hb : ∀ b, O b → w'.heap[b]? = w.heap[b]?) : HpAt w' ty h O vt M :=
  ⟨(hb h H.own.1).trans H.blk, own_same H.row fun b e => hb b (H.own.2.1 b e), fun m hm => own_same (H.parts m hm) fun b e => hb b (H.own.2.2 m hm b e), H.ne, H.nh, H.nr, H.apart, H.own, fun b e => Nat.lt_of_lt_of_le (H.lt b e) hs⟩
theorem HpAt.below {w' : World} {N : Nat} (H : HpAt w ty h O vt M) (hb : Below N w w') (hN : w.heap.size ≤ N) : HpAt w' ty h O vt M :=
  H.keep hb.size fun b e => hb.block b (by have := H.lt b e; omega)
/-- The cells of a thing. -/
theorem HpAt.at (H : HpAt w ty h O vt M) {i : Nat} {m : Hp.Th × Value} (hm : M[i]? = some m) :
    ∃ g c, vt = .slice (some ⟨g, 0, none⟩) M.length c ∧ g < w.heap.size ∧ g ≠ h ∧ w.cell? ⟨g, i * 2, none⟩ = some (.int .i64 m.1.kind) ∧ w.cell? ⟨g, i * 2 + 1, none⟩ = some m.2 := by
  have hi : i < M.length := (List.getElem?_eq_some_iff.1 hm).1
  rcases own_shape H.row with ⟨_, e2, _⟩ | ⟨g, c, rfl, h0, h1, h2, h3⟩
  · omega
  · refine ⟨g, c, rfl, h1, fun e => H.ne (by rw [e]; rfl), ?_, ?_⟩
    · rw [H.row.cellAt (i * 2) (by omega)]; exact (Hp.thC_at M i m hm).1
    · rw [H.row.cellAt (i * 2 + 1) (by omega)]; exact (Hp.thC_at M i m hm).2
/-- The cells of a part. -/
theorem HpAt.part (H : HpAt w ty h O vt M) {m : Hp.Th × Value} (hm : m ∈ M) {j : Nat} {v : Hp.V} (hv : m.1.parts[j]? = some v) :
    ∃ g c, m.2 = .slice (some ⟨g, 0, none⟩) m.1.parts.length c ∧ g < w.heap.size ∧ g ≠ h ∧ vt.ownBlock ≠ some g ∧ w.cell? ⟨g, j * 3, none⟩ = some (.int .i64 v.kind) ∧ w.cell? ⟨g, j * 3 + 1, none⟩ = some (.int .i64 v.int) ∧ w.cell? ⟨g, j * 3 + 2, none⟩ = some (.string v.text) := by
  have hj : j < m.1.parts.length := (List.getElem?_eq_some_iff.1 hv).1
  have hp := H.parts m hm
  have hr := H.nr m hm
  have hh := H.nh m hm
  rcases own_shape hp with ⟨_, e2, _⟩ | ⟨g, c, e, h0, h1, h2, h3⟩
  · omega
  · rw [e] at hp hr hh
    obtain ⟨f1, f2, f3⟩ := Hp.flatV_at _ j v hv
    refine ⟨g, c, e, h1, fun e => hh (by rw [e]; rfl), hr g rfl, ?_, ?_, ?_⟩
    · rw [hp.cellAt (j * 3) (by omega)]; exact f1
    · rw [hp.cellAt (j * 3 + 1) (by omega)]; exact f2
    · rw [hp.cellAt (j * 3 + 2) (by omega)]; exact f3
theorem HpAt.partLen (H : HpAt w ty h O vt M) {m : Hp.Th × Value} (hm : m ∈ M) : ∃ a c, m.2 = .slice a m.1.parts.length c := by
  rcases own_shape (H.parts m hm) with ⟨e, e2, _⟩ | ⟨g, c, e, _⟩
  · exact ⟨none, 0, by rw [e, e2]⟩
  · exact ⟨_, c, e⟩
theorem HSt.keep {w' : World} (H : HSt w ty h O T) (hs : w.heap.size ≤ w'.heap.size) (hb : ∀ b, O b → w'.heap[b]? = w.heap[b]?) : HSt w' ty h O T := by
  obtain ⟨vt, M, H, e⟩ := H
  exact ⟨vt, M, H.keep hs hb, e⟩
theorem HSt.below {w' : World} {N : Nat} (H : HSt w ty h O T) (hb : Below N w w') (hN : w.heap.size ≤ N) : HSt w' ty h O T := by
  obtain ⟨vt, M, H, e⟩ := H
  exact ⟨vt, M, H.below hb hN, e⟩
theorem HSt.lt (H : HSt w ty h O T) : ∀ b, O b → b < w.heap.size := by
  obtain ⟨vt, M, H, e⟩ := H
  exact H.lt
theorem HSt.oh (H : HSt w ty h O T) : O h := by
  obtain ⟨vt, M, H, e⟩ := H
  exact H.own.1
theorem HSt.drewN (H : HSt w ty h O T) (n : Nat) : HSt (w.drewN n) ty h O T := H.keep (Nat.le_refl _) fun _ _ => rfl
end
end Go.Proofs.Ythbnhneibpoooaa
/- Names: the bytes. -/
namespace Go.Proofs.Ythbnhneibpoooaa
open Go.RowKit
set_option linter.unusedVariables false
set_option linter.unusedSimpArgs false
theorem isDigit_any (c : Int) (w : World) : Calls Try.prog 91 #[.int .u8 c] w fun e w' => e = .returned (.bool (Nm.digitB c)) ∧ w = w' := by
  by_cases h : 48 ≤ c
  · go_enter Try.func91, Try.ntmps91
    go_wp2
    go_ret
    exact ⟨by simp [Nm.digitB, h], rfl⟩
  · go_enter Try.func91, Try.ntmps91
    go_wp2
    go_ret
    exact ⟨by simp [Nm.digitB, h]; omega, rfl⟩
theorem rdigit_any (c : Int) (w : World) : Calls Try.prog 90 #[.int .u8 c] w fun e w' => e = .returned (.bool (Nm.digitB c)) ∧ w = w' := by
  by_cases h : 48 ≤ c
  · go_enter Try.func90, Try.ntmps90
    go_wp2
    go_ret
    exact ⟨by simp [Nm.digitB, h], rfl⟩
  · go_enter Try.func90, Try.ntmps90
    go_wp2
    go_ret
    exact ⟨by simp [Nm.digitB, h]; omega, rfl⟩
set_option maxRecDepth 100000 in
theorem liteIndex_any (s : ByteArray) (c : Int) (w : World) : Calls Try.prog 96 #[.string s, .int .u8 c] w fun e w' => e = .returned (.int .i64 (Lib.indexByte s.data.toList c.toNat.toUInt8)) ∧ w = w' := by
  go_enter Try.func96, Try.ntmps96
  go_wp2_with fail
  rw [run_callFunc_extern Try.func97 (by kernel_rfl) (by kernel_rfl) (by kernel_rfl) (e := Extern.BytealgIndexByte.indexByte) (by kernel_rfl), Lib.run_indexByteString]
  simp only [Result.andThen]
  rw [Oper.upon_value]
  go_wp2
  go_ret
  exact ⟨rfl, rfl⟩
theorem indexByte_any (s : ByteArray) (c : Int) (w : World) : Calls Try.prog 92 #[.string s, .int .u8 c] w fun e w' => e = .returned (.int .i64 (Lib.indexByte s.data.toList c.toNat.toUInt8)) ∧ w = w' := by
  go_enter Try.func92, Try.ntmps92
  go_wp2_with (go_at_call 96; (with_reducible refine (liteIndex_any _ _ _).mono ?_); rintro e w' ⟨rfl, hw⟩; obtain rfl := hw)
  go_ret
  exact ⟨rfl, rfl⟩
/-- The signs. -/
def signS : ByteArray := ⟨#[33, 36, 37, 38, 42, 47, 58, 60, 61, 62, 63, 94, 95, 126, 43, 45, 46, 64]⟩
theorem sign_index : ∀ c : Fin 256, decide (0 ≤ Lib.indexByte signS.data.toList ((c : Nat) : Int).toNat.toUInt8) = Nm.signL.contains ((c : Nat) : Int) := by decide +kernel
set_option maxHeartbeats 2000000 in
theorem isName_any (c : Int) (h0 : 0 ≤ c) (h1 : c < 256) (w : World) : Calls Try.prog 81 #[.int .u8 c] w fun e w' => e = .returned (.bool (Nm.byteB c)) ∧ w = w' := by
  have hs := sign_index ⟨c.toNat, by omega⟩
  have hc : (((⟨c.toNat, by omega⟩ : Fin 256) : Nat) : Int) = c := by show ((c.toNat : Nat) : Int) = c; omega
  rw [hc] at hs
  obtain ⟨z, hz⟩ : ∃ z, Hid (Lib.indexByte signS.data.toList c.toNat.toUInt8 = z) := ⟨_, rfl⟩
  rw [hz.out] at hs
  obtain ⟨sg, hsg⟩ : ∃ sg, Hid (Nm.signL.contains c = sg) := ⟨_, rfl⟩
  rw [hsg.out] at hs
  have hd : Hid (Nm.byteB c = (Nm.digitB c || (decide (97 ≤ c) && decide (c ≤ 122)) || (decide (65 ≤ c) && decide (c ≤ 90)) || sg)) := by unfold Hid Nm.byteB; rw [hsg.out]
  have HS := Lib.hid hs
  clear hs hc
  have cI : Hid (∀ w, Calls Try.prog 92 #[.string ⟨#[33, 36, 37, 38, 42, 47, 58, 60, 61, 62, 63, 94, 95, 126, 43, 45, 46, 64]⟩, .int .u8 c] w fun e w' => e = .returned (.int .i64 z) ∧ w = w') := fun w => by rw [← hz.out]; exact indexByte_any signS c w
  by_cases d1 : Nm.digitB c = true
  · have HD1 := Lib.hid d1
    clear d1
    go_enter Try.func81, Try.ntmps81
    go_wp2_with fail
    with_reducible refine (isDigit_any c w).mono ?_
    rintro e w' ⟨rfl, hw⟩
    obtain rfl := hw
    rw [HD1.out]
    go_wp2_with fail
    go_ret
    exact ⟨by rw [hd.out, HD1.out]; rfl, rfl⟩
  · have d1' : Nm.digitB c = false := by simpa using d1
    have HD1 := Lib.hid d1'
    clear d1 d1'
    have hzz : Hid (decide (0 ≤ z) = sg) := HS.out
    rcases (by omega : (97 ≤ c ∧ c ≤ 122) ∨ (97 ≤ c ∧ 122 < c) ∨ (65 ≤ c ∧ c ≤ 90) ∨ (65 ≤ c ∧ 90 < c ∧ c < 97) ∨ c < 65) with ⟨g1, g2⟩ | ⟨g1, g2⟩ | ⟨g1, g2⟩ | ⟨g1, g2, g3⟩ | g1
    · have b1 : decide (97 ≤ c) = true := by simp; omega
      have b2 : decide (c ≤ 122) = true := by simp; omega
      have HR : Hid (Nm.byteB c = true) := by unfold Hid; rw [hd.out, HD1.out]; simp; omega
      go_enter Try.func81, Try.ntmps81
      go_wp2_with fail
      with_reducible refine (isDigit_any c w).mono ?_
      rintro e w' ⟨rfl, hw⟩
      obtain rfl := hw
      rw [HD1.out]
      go_wp2_with fail
      go_ret
      exact ⟨by rw [HR.out]; rfl, rfl⟩
    · have b1 : decide (97 ≤ c) = true := by simp; omega
      have b2 : decide (c ≤ 122) = false := by simp; omega
      have b3 : decide (65 ≤ c) = true := by simp; omega
      have b4 : decide (c ≤ 90) = false := by simp; omega
      have HR : Hid (Nm.byteB c = sg) := by
        have hA : (decide (97 ≤ c) && decide (c ≤ 122)) = false := by simp; omega
        have hB : (decide (65 ≤ c) && decide (c ≤ 90)) = false := by simp; omega
        unfold Hid
        rw [hd.out, HD1.out, hA, hB]
        rfl
      go_enter Try.func81, Try.ntmps81
      go_wp2_with fail
      with_reducible refine (isDigit_any c w).mono ?_
      rintro e w' ⟨rfl, hw⟩
      obtain rfl := hw
      rw [HD1.out]
      go_wp2_with fail
      with_reducible refine (cI.out _).mono ?_
      rintro e w' ⟨rfl, hw⟩
      obtain rfl := hw
      go_wp2_with fail
      go_ret
      exact ⟨by rw [HR.out, ← hzz.out]; rfl, rfl⟩
    · have b1 : decide (97 ≤ c) = false := by simp; omega
      have b3 : decide (65 ≤ c) = true := by simp; omega
      have b4 : decide (c ≤ 90) = true := by simp; omega
      have HR : Hid (Nm.byteB c = true) := by unfold Hid; rw [hd.out, HD1.out]; simp; omega
      go_enter Try.func81, Try.ntmps81
      go_wp2_with fail
      with_reducible refine (isDigit_any c w).mono ?_
      rintro e w' ⟨rfl, hw⟩
      obtain rfl := hw
      rw [HD1.out]
      go_wp2_with fail
      go_ret
      exact ⟨by rw [HR.out]; rfl, rfl⟩
    · have b1 : decide (97 ≤ c) = false := by simp; omega
      have b3 : decide (65 ≤ c) = true := by simp; omega
      have b4 : decide (c ≤ 90) = false := by simp; omega
      have HR : Hid (Nm.byteB c = sg) := by
        have hA : (decide (97 ≤ c) && decide (c ≤ 122)) = false := by simp; omega
        have hB : (decide (65 ≤ c) && decide (c ≤ 90)) = false := by simp; omega
        unfold Hid
        rw [hd.out, HD1.out, hA, hB]
        rfl
      go_enter Try.func81, Try.ntmps81
      go_wp2_with fail
      with_reducible refine (isDigit_any c w).mono ?_
      rintro e w' ⟨rfl, hw⟩
      obtain rfl := hw
      rw [HD1.out]
      go_wp2_with fail
      with_reducible refine (cI.out _).mono ?_
      rintro e w' ⟨rfl, hw⟩
      obtain rfl := hw
      go_wp2_with fail
      go_ret
      exact ⟨by rw [HR.out, ← hzz.out]; rfl, rfl⟩
    · have b1 : decide (97 ≤ c) = false := by simp; omega
      have b3 : decide (65 ≤ c) = false := by simp; omega
      have HR : Hid (Nm.byteB c = sg) := by
        have hA : (decide (97 ≤ c) && decide (c ≤ 122)) = false := by simp; omega
        have hB : (decide (65 ≤ c) && decide (c ≤ 90)) = false := by simp; omega
        unfold Hid
        rw [hd.out, HD1.out, hA, hB]
        rfl
      go_enter Try.func81, Try.ntmps81
      go_wp2_with fail
      with_reducible refine (isDigit_any c w).mono ?_
      rintro e w' ⟨rfl, hw⟩
      obtain rfl := hw
      rw [HD1.out]
      go_wp2_with fail
      with_reducible refine (cI.out _).mono ?_
      rintro e w' ⟨rfl, hw⟩
      obtain rfl := hw
      go_wp2_with fail
      go_ret
      exact ⟨by rw [HR.out, ← hzz.out]; rfl, rfl⟩
theorem sign_at (k : Nat) (h : k < 18) : Nm.signL[k]? = some (((ByteArray.mk #[33, 36, 37, 38, 42, 47, 58, 60, 61, 62, 63, 94, 95, 126, 43, 45, 46, 64])[k]'h).toNat : Int) := by
  have e : Nm.signL = Nm.bytesI signS := by decide +kernel
  rw [e]
  exact Nm.bytesI_get signS h
theorem sign_yes {k : Nat} {d c : Int} (h : Nm.signL[k]? = some d) (hq : (d == c) = true) : Nm.signL.contains c = true := by
  have e : d = c := by simpa using hq
  rw [List.contains_iff_mem, ← e]
  exact List.mem_of_getElem? h
theorem sign_no {k : Nat} {d c : Int} (h : Nm.signL[k]? = some d) (hq : (d == c) = false) (hn : (Nm.signL.take k).contains c = false) : (Nm.signL.take (k + 1)).contains c = false := by
  have e : d ≠ c := by simpa using hq
  have h' := hn
  rw [List.take_add_one, h]
  rw [Bool.eq_false_iff] at h' ⊢
  intro hc
  rw [List.contains_iff_mem] at hc
  rcases List.mem_append.1 hc with h1 | h1
  · exact h' (List.contains_iff_mem.2 h1)
  · simp at h1
    exact e h1.symm
set_option maxHeartbeats 2000000 in
theorem rbyte_any (c : Int) (h0 : 0 ≤ c) (h1 : c < 256) (w : World) : Calls Try.prog 78 #[.int .u8 c] w fun e w' => e = .returned (.bool (Nm.byteB c)) ∧ w = w' := by
  have hd : Hid (Nm.byteB c = (Nm.digitB c || (decide (97 ≤ c) && decide (c ≤ 122)) || (decide (65 ≤ c) && decide (c ≤ 90)) || Nm.signL.contains c)) := rfl
  by_cases d1 : Nm.digitB c = true
  · have HD1 := Lib.hid d1
    clear d1
    go_enter Try.func78, Try.ntmps78
    go_wp2_with fail
    with_reducible refine (rdigit_any c w).mono ?_
    rintro e w' ⟨rfl, hw⟩
    obtain rfl := hw
    rw [HD1.out]
    go_wp2_with fail
    go_ret
    exact ⟨by rw [hd.out, HD1.out]; rfl, rfl⟩
  · have d1' : Nm.digitB c = false := by simpa using d1
    have HD1 := Lib.hid d1'
    clear d1 d1'
    rcases (by omega : (97 ≤ c ∧ c ≤ 122) ∨ (97 ≤ c ∧ 122 < c) ∨ (65 ≤ c ∧ c ≤ 90) ∨ (65 ≤ c ∧ 90 < c ∧ c < 97) ∨ c < 65) with ⟨g1, g2⟩ | ⟨g1, g2⟩ | ⟨g1, g2⟩ | ⟨g1, g2, g3⟩ | g1
    · have b1 : decide (97 ≤ c) = true := by simp; omega
      have b2 : decide (c ≤ 122) = true := by simp; omega
      have HR : Hid (Nm.byteB c = true) := by unfold Hid; rw [hd.out, HD1.out]; simp; omega
      go_enter Try.func78, Try.ntmps78
      go_wp2_with fail
      with_reducible refine (rdigit_any c w).mono ?_
      rintro e w' ⟨rfl, hw⟩
      obtain rfl := hw
      rw [HD1.out]
      go_wp2_with fail
      go_ret
      exact ⟨by rw [HR.out]; rfl, rfl⟩
    · have b1 : decide (97 ≤ c) = true := by simp; omega
      have b2 : decide (c ≤ 122) = false := by simp; omega
      have b3 : decide (65 ≤ c) = true := by simp; omega
      have b4 : decide (c ≤ 90) = false := by simp; omega
      have HR : Hid (Nm.byteB c = Nm.signL.contains c) := by
        have hA : (decide (97 ≤ c) && decide (c ≤ 122)) = false := by simp; omega
        have hB : (decide (65 ≤ c) && decide (c ≤ 90)) = false := by simp; omega
        unfold Hid
        rw [hd.out, HD1.out, hA, hB]
        rfl
      go_enter Try.func78, Try.ntmps78
      go_wp2_with fail
      with_reducible refine (rdigit_any c w).mono ?_
      rintro e w' ⟨rfl, hw⟩
      obtain rfl := hw
      rw [HD1.out]
      go_wp2_with fail
      go_loopg [4] 18 (fun gk i wx => ∃ k : Nat, k ≤ 18 ∧ gk = 18 - k ∧ i = .int .i64 k ∧ (Nm.signL.take k).contains c = false ∧ w = wx)
      case atStart => exact ⟨0, by omega, rfl, rfl, rfl, rfl⟩
      case round =>
        obtain ⟨k, hk, rfl, rfl, hno, rfl⟩ := hrel
        have HNO := Lib.hid hno
        clear hno
        by_cases hlt : k < 18
        · have hsz : k < 18 := hlt
          have hg1 : (0 : Int) ≤ k := by omega
          have hg2 : (k : Int) < 18 := by omega
          have hgw : IntKind.i64.wrap ((k : Int) + 1) = k + 1 := by rw [IntKind.wrap_i64]; omega
          have HSG := Lib.hid (sign_at k hlt)
          go_wp2_with fail
          · rename_i hq
            have hc : Nm.signL.contains c = true := sign_yes HSG.out hq
            go_ret
            exact ⟨by rw [HR.out, hc]; rfl, rfl⟩
          · rename_i hq
            have HNX := Lib.hid (sign_no HSG.out hq HNO.out)
            go_roundg (18 - (k + 1))
            case measure => omega
            case rel => exact ⟨k + 1, by omega, rfl, by go_num, HNX.out, rfl⟩
        · obtain rfl : k = 18 := by omega
          go_wp2_with fail
          go_ret
          exact ⟨by rw [HR.out, ← HNO.out]; rfl, rfl⟩
    · have b1 : decide (97 ≤ c) = false := by simp; omega
      have b3 : decide (65 ≤ c) = true := by simp; omega
      have b4 : decide (c ≤ 90) = true := by simp; omega
      have HR : Hid (Nm.byteB c = true) := by unfold Hid; rw [hd.out, HD1.out]; simp; omega
      go_enter Try.func78, Try.ntmps78
      go_wp2_with fail
      with_reducible refine (rdigit_any c w).mono ?_
      rintro e w' ⟨rfl, hw⟩
      obtain rfl := hw
      rw [HD1.out]
      go_wp2_with fail
      go_ret
      exact ⟨by rw [HR.out]; rfl, rfl⟩
    · have b1 : decide (97 ≤ c) = false := by simp; omega
      have b3 : decide (65 ≤ c) = true := by simp; omega
      have b4 : decide (c ≤ 90) = false := by simp; omega
      have HR : Hid (Nm.byteB c = Nm.signL.contains c) := by
        have hA : (decide (97 ≤ c) && decide (c ≤ 122)) = false := by simp; omega
        have hB : (decide (65 ≤ c) && decide (c ≤ 90)) = false := by simp; omega
        unfold Hid
        rw [hd.out, HD1.out, hA, hB]
        rfl
      go_enter Try.func78, Try.ntmps78
      go_wp2_with fail
      with_reducible refine (rdigit_any c w).mono ?_
      rintro e w' ⟨rfl, hw⟩
      obtain rfl := hw
      rw [HD1.out]
      go_wp2_with fail
      go_loopg [4] 18 (fun gk i wx => ∃ k : Nat, k ≤ 18 ∧ gk = 18 - k ∧ i = .int .i64 k ∧ (Nm.signL.take k).contains c = false ∧ w = wx)
      case atStart => exact ⟨0, by omega, rfl, rfl, rfl, rfl⟩
      case round =>
        obtain ⟨k, hk, rfl, rfl, hno, rfl⟩ := hrel
        have HNO := Lib.hid hno
        clear hno
        by_cases hlt : k < 18
        · have hsz : k < 18 := hlt
          have hg1 : (0 : Int) ≤ k := by omega
          have hg2 : (k : Int) < 18 := by omega
          have hgw : IntKind.i64.wrap ((k : Int) + 1) = k + 1 := by rw [IntKind.wrap_i64]; omega
          have HSG := Lib.hid (sign_at k hlt)
          go_wp2_with fail
          · rename_i hq
            have hc : Nm.signL.contains c = true := sign_yes HSG.out hq
            go_ret
            exact ⟨by rw [HR.out, hc]; rfl, rfl⟩
          · rename_i hq
            have HNX := Lib.hid (sign_no HSG.out hq HNO.out)
            go_roundg (18 - (k + 1))
            case measure => omega
            case rel => exact ⟨k + 1, by omega, rfl, by go_num, HNX.out, rfl⟩
        · obtain rfl : k = 18 := by omega
          go_wp2_with fail
          go_ret
          exact ⟨by rw [HR.out, ← HNO.out]; rfl, rfl⟩
    · have b1 : decide (97 ≤ c) = false := by simp; omega
      have b3 : decide (65 ≤ c) = false := by simp; omega
      have HR : Hid (Nm.byteB c = Nm.signL.contains c) := by
        have hA : (decide (97 ≤ c) && decide (c ≤ 122)) = false := by simp; omega
        have hB : (decide (65 ≤ c) && decide (c ≤ 90)) = false := by simp; omega
        unfold Hid
        rw [hd.out, HD1.out, hA, hB]
        rfl
      go_enter Try.func78, Try.ntmps78
      go_wp2_with fail
      with_reducible refine (rdigit_any c w).mono ?_
      rintro e w' ⟨rfl, hw⟩
      obtain rfl := hw
      rw [HD1.out]
      go_wp2_with fail
      go_loopg [4] 18 (fun gk i wx => ∃ k : Nat, k ≤ 18 ∧ gk = 18 - k ∧ i = .int .i64 k ∧ (Nm.signL.take k).contains c = false ∧ w = wx)
      case atStart => exact ⟨0, by omega, rfl, rfl, rfl, rfl⟩
      case round =>
        obtain ⟨k, hk, rfl, rfl, hno, rfl⟩ := hrel
        have HNO := Lib.hid hno
        clear hno
        by_cases hlt : k < 18
        · have hsz : k < 18 := hlt
          have hg1 : (0 : Int) ≤ k := by omega
          have hg2 : (k : Int) < 18 := by omega
          have hgw : IntKind.i64.wrap ((k : Int) + 1) = k + 1 := by rw [IntKind.wrap_i64]; omega
          have HSG := Lib.hid (sign_at k hlt)
          go_wp2_with fail
          · rename_i hq
            have hc : Nm.signL.contains c = true := sign_yes HSG.out hq
            go_ret
            exact ⟨by rw [HR.out, hc]; rfl, rfl⟩
          · rename_i hq
            have HNX := Lib.hid (sign_no HSG.out hq HNO.out)
            go_roundg (18 - (k + 1))
            case measure => omega
            case rel => exact ⟨k + 1, by omega, rfl, by go_num, HNX.out, rfl⟩
        · obtain rfl : k = 18 := by omega
          go_wp2_with fail
          go_ret
          exact ⟨by rw [HR.out, ← HNO.out]; rfl, rfl⟩
end Go.Proofs.Ythbnhneibpoooaa
/- Names: the numbers among texts, the names. -/
namespace Go.Proofs.Ythbnhneibpoooaa
open Go.RowKit
set_option linter.unusedVariables false
set_option linter.unusedSimpArgs false
theorem all_step {p : Int → Bool} {l : List Int} {k : Nat} {d : Int} (h : l[k]? = some d) (hp : p d = true) (ha : (l.take k).all p = true) : (l.take (k + 1)).all p = true := by
  rw [List.take_add_one, h, List.all_append, ha]
  simp [hp]
theorem all_no {p : Int → Bool} {l : List Int} {k : Nat} {d : Int} (h : l[k]? = some d) (hp : p d = false) : l.all p = false := by
  rw [List.all_eq_false]
  exact ⟨d, List.mem_of_getElem? h, by rw [hp]; decide⟩
/-- A text's bytes behind its first one. -/
theorem bytesI_tail (s : ByteArray) : Nm.bytesI (s.extract 1 s.size) = (Nm.bytesI s).tail := by
  have h : (s.extract 1 s.size).data.toList = s.data.toList.drop 1 := by
    rw [Lib.extract_data]
    simp
    rw [List.take_of_length_le (by simp)]
  unfold Nm.bytesI
  rw [h]
  simp
set_option maxHeartbeats 4000000 in
theorem dnumber_any (s : ByteArray) (hs : s.size ≤ maxLen) (w : World) : Calls Try.prog 82 #[.string s] w fun e w' => e = .returned (.bool (Nm.numL (Nm.bytesI s))) ∧ w = w' := by
  unfold maxLen at hs
  by_cases hz : s.size = 0
  · have h1 : s.toList = [] := by rw [Lib.toList_data]; exact List.eq_nil_of_length_eq_zero (by simpa using hz)
    have hb : Nm.bytesI s = [] := List.eq_nil_of_length_eq_zero (by rw [Nm.bytesI_length]; exact hz)
    have HBZ := Lib.hid hb
    have hsz : (s.size : Int) = 0 := by omega
    have HZ : Hid (Nm.numL (Nm.bytesI s) = false) := by unfold Hid; rw [hb]; rfl
    clear hb
    go_enter Try.func82, Try.ntmps82
    go_wp2_with fail
    refine wp_loop_rounds 1 ?_
    rw [rounds_succ]
    go_wp2_with fail
    go_ret
    exact ⟨by rw [HZ.out]; first | rfl | simp [h1], rfl⟩
  · have hpos : 0 < s.size := by omega
    have h1' : s.toList ≠ [] := by rw [Lib.toList_data]; intro e; have h := congrArg List.length e; rw [Array.length_toList] at h; exact hz h
    have h1 : ¬ s.toList = [] := h1'
    have h2 : s.toList.isEmpty = false := by simpa using h1'
    have hcons : Nm.bytesI s = ((s[0].toNat : Nat) : Int) :: (Nm.bytesI s).tail := by
      have h := Nm.bytesI_get s hpos
      cases hb : Nm.bytesI s with
      | nil => rw [hb] at h; simp at h
      | cons a l => rw [hb] at h; simp at h; rw [h]; rfl
    have HC := Lib.hid hcons
    clear hcons h1'
    have hts : (s.extract 1 s.size).size = s.size - 1 := by simp
    have hbt := bytesI_tail s
    rcases (by omega : ((s[0].toNat : Nat) : Int) = 43 ∨ (((s[0].toNat : Nat) : Int) ≠ 43 ∧ ((s[0].toNat : Nat) : Int) = 45) ∨ (((s[0].toNat : Nat) : Int) ≠ 43 ∧ ((s[0].toNat : Nat) : Int) ≠ 45)) with q | ⟨q, q2⟩ | ⟨q, q2⟩
    · have b1 : (((s[0].toNat : Nat) : Int) == 43) = true := by simpa using q
      have hres : Nm.numL (Nm.bytesI s) = ((Nm.bytesI (s.extract 1 s.size)).all Nm.digitB && !(Nm.bytesI (s.extract 1 s.size)).isEmpty) := by unfold Nm.numL; rw [hbt, HC.out]; simp [Nm.unsigned, q]
      clear q
      go_enter Try.func82, Try.ntmps82
      go_wp2_with fail
      generalize s.extract 1 s.size = t at *
      clear hbt
      have hbl := Nm.bytesI_length t
      have HR := Lib.hid hres
      have htl := Lib.toList_data t
      have hne : Hid (0 < t.size → (¬ t.toList = []) ∧ t.toList.isEmpty = false) := fun h => by
        have : t.toList ≠ [] := by rw [htl]; intro e; have h3 := congrArg List.length e; rw [Array.length_toList] at h3; exact absurd h3 (Nat.ne_of_gt h)
        exact ⟨this, by simpa using this⟩
      have hni : Hid (t.size = 0 → t.toList = []) := fun h => by rw [htl]; exact List.eq_nil_of_length_eq_zero (by simpa using h)
      clear hres htl
      go_loopg [20] t.size (fun gk i wx => ∃ k : Nat, k ≤ t.size ∧ gk = t.size - k ∧ i = .int .i64 k ∧ ((Nm.bytesI t).take k).all Nm.digitB = true ∧ w = wx)
      case atStart => exact ⟨0, Nat.zero_le _, rfl, rfl, rfl, rfl⟩
      case round =>
        obtain ⟨k, hk, rfl, rfl, hall, rfl⟩ := hrel
        have HALL := Lib.hid hall
        clear hall
        by_cases hlt : k < t.size
        · have HG := Lib.hid (Nm.bytesI_get t hlt)
          have hg1 : (0 : Int) ≤ k := by omega
          have hg2 : (k : Int) < t.size := by omega
          have hgw : IntKind.i64.wrap ((k : Int) + 1) = k + 1 := by rw [IntKind.wrap_i64]; omega
          go_wp2_with fail
          with_reducible refine (isDigit_any _ _).mono ?_
          rintro e w' ⟨rfl, hw⟩
          obtain rfl := hw
          cases hd : Nm.digitB ((t[k].toNat : Nat) : Int)
          · have HF := Lib.hid (all_no HG.out hd)
            clear hd
            go_wp2_with fail
            go_ret
            exact ⟨by rw [HR.out, HF.out]; rfl, rfl⟩
          · have HT := Lib.hid (all_step HG.out hd HALL.out)
            clear hd
            go_wp2_with fail
            go_roundg (t.size - (k + 1))
            case measure => omega
            case rel => exact ⟨k + 1, by omega, rfl, by go_num, HT.out, rfl⟩
        · obtain rfl : k = t.size := by omega
          have hge : (t.size : Int) ≤ t.size := by omega
          have hfull : (Nm.bytesI t).all Nm.digitB = true := by have h := HALL.out; rw [List.take_of_length_le (by omega)] at h; exact h
          have HF := Lib.hid hfull
          clear hfull
          by_cases hz : t.size = 0
          · have h1 := hni.out hz
            have HB : Hid ((Nm.bytesI t).isEmpty = true) := by unfold Hid; rw [List.isEmpty_iff]; exact List.eq_nil_of_length_eq_zero (by omega)
            go_wp2_with fail
            go_ret
            exact ⟨by rw [HR.out, HF.out, HB.out]; first | rfl | simp [h1], rfl⟩
          · obtain ⟨h1, h2⟩ := hne.out (by omega)
            have HB : Hid ((Nm.bytesI t).isEmpty = false) := by unfold Hid; rw [List.isEmpty_eq_false_iff]; intro e; rw [e] at hbl; simp at hbl; omega
            go_wp2_with fail
            go_ret
            exact ⟨by rw [HR.out, HF.out, HB.out]; first | rfl | simp [h2], rfl⟩
    · have b1 : (((s[0].toNat : Nat) : Int) == 43) = false := by simpa using q
      have b2 : (((s[0].toNat : Nat) : Int) == 45) = true := by simpa using q2
      have hres : Nm.numL (Nm.bytesI s) = ((Nm.bytesI (s.extract 1 s.size)).all Nm.digitB && !(Nm.bytesI (s.extract 1 s.size)).isEmpty) := by unfold Nm.numL; rw [hbt, HC.out]; simp [Nm.unsigned, q2]
      clear q q2
      go_enter Try.func82, Try.ntmps82
      go_wp2_with fail
      generalize s.extract 1 s.size = t at *
      clear hbt
      have hbl := Nm.bytesI_length t
      have HR := Lib.hid hres
      have htl := Lib.toList_data t
      have hne : Hid (0 < t.size → (¬ t.toList = []) ∧ t.toList.isEmpty = false) := fun h => by
        have : t.toList ≠ [] := by rw [htl]; intro e; have h3 := congrArg List.length e; rw [Array.length_toList] at h3; exact absurd h3 (Nat.ne_of_gt h)
        exact ⟨this, by simpa using this⟩
      have hni : Hid (t.size = 0 → t.toList = []) := fun h => by rw [htl]; exact List.eq_nil_of_length_eq_zero (by simpa using h)
      clear hres htl
      go_loopg [20] t.size (fun gk i wx => ∃ k : Nat, k ≤ t.size ∧ gk = t.size - k ∧ i = .int .i64 k ∧ ((Nm.bytesI t).take k).all Nm.digitB = true ∧ w = wx)
      case atStart => exact ⟨0, Nat.zero_le _, rfl, rfl, rfl, rfl⟩
      case round =>
        obtain ⟨k, hk, rfl, rfl, hall, rfl⟩ := hrel
        have HALL := Lib.hid hall
        clear hall
        by_cases hlt : k < t.size
        · have HG := Lib.hid (Nm.bytesI_get t hlt)
          have hg1 : (0 : Int) ≤ k := by omega
          have hg2 : (k : Int) < t.size := by omega
          have hgw : IntKind.i64.wrap ((k : Int) + 1) = k + 1 := by rw [IntKind.wrap_i64]; omega
          go_wp2_with fail
          with_reducible refine (isDigit_any _ _).mono ?_
          rintro e w' ⟨rfl, hw⟩
          obtain rfl := hw
          cases hd : Nm.digitB ((t[k].toNat : Nat) : Int)
          · have HF := Lib.hid (all_no HG.out hd)
            clear hd
            go_wp2_with fail
            go_ret
            exact ⟨by rw [HR.out, HF.out]; rfl, rfl⟩
          · have HT := Lib.hid (all_step HG.out hd HALL.out)
            clear hd
            go_wp2_with fail
            go_roundg (t.size - (k + 1))
            case measure => omega
            case rel => exact ⟨k + 1, by omega, rfl, by go_num, HT.out, rfl⟩
        · obtain rfl : k = t.size := by omega
          have hge : (t.size : Int) ≤ t.size := by omega
          have hfull : (Nm.bytesI t).all Nm.digitB = true := by have h := HALL.out; rw [List.take_of_length_le (by omega)] at h; exact h
          have HF := Lib.hid hfull
          clear hfull
          by_cases hz : t.size = 0
          · have h1 := hni.out hz
            have HB : Hid ((Nm.bytesI t).isEmpty = true) := by unfold Hid; rw [List.isEmpty_iff]; exact List.eq_nil_of_length_eq_zero (by omega)
            go_wp2_with fail
            go_ret
            exact ⟨by rw [HR.out, HF.out, HB.out]; first | rfl | simp [h1], rfl⟩
          · obtain ⟨h1, h2⟩ := hne.out (by omega)
            have HB : Hid ((Nm.bytesI t).isEmpty = false) := by unfold Hid; rw [List.isEmpty_eq_false_iff]; intro e; rw [e] at hbl; simp at hbl; omega
            go_wp2_with fail
            go_ret
            exact ⟨by rw [HR.out, HF.out, HB.out]; first | rfl | simp [h2], rfl⟩
    · have b1 : (((s[0].toNat : Nat) : Int) == 43) = false := by simpa using q
      have b2 : (((s[0].toNat : Nat) : Int) == 45) = false := by simpa using q2
      have hres : Nm.numL (Nm.bytesI s) = ((Nm.bytesI s).all Nm.digitB && !(Nm.bytesI s).isEmpty) := by
        unfold Nm.numL
        rw [HC.out]
        simp [Nm.unsigned, q, q2]
      clear q q2 hts hbt
      go_enter Try.func82, Try.ntmps82
      go_wp2_with fail
      have hbl := Nm.bytesI_length s
      have HR := Lib.hid hres
      have htl := Lib.toList_data s
      have hne : Hid (0 < s.size → (¬ s.toList = []) ∧ s.toList.isEmpty = false) := fun h => by
        have : s.toList ≠ [] := by rw [htl]; intro e; have h3 := congrArg List.length e; rw [Array.length_toList] at h3; exact absurd h3 (Nat.ne_of_gt h)
        exact ⟨this, by simpa using this⟩
      have hni : Hid (s.size = 0 → s.toList = []) := fun h => by rw [htl]; exact List.eq_nil_of_length_eq_zero (by simpa using h)
      clear hres htl
      go_loopg [20] s.size (fun gk i wx => ∃ k : Nat, k ≤ s.size ∧ gk = s.size - k ∧ i = .int .i64 k ∧ ((Nm.bytesI s).take k).all Nm.digitB = true ∧ w = wx)
      case atStart => exact ⟨0, Nat.zero_le _, rfl, rfl, rfl, rfl⟩
      case round =>
        obtain ⟨k, hk, rfl, rfl, hall, rfl⟩ := hrel
        have HALL := Lib.hid hall
        clear hall
        by_cases hlt : k < s.size
        · have HG := Lib.hid (Nm.bytesI_get s hlt)
          have hg1 : (0 : Int) ≤ k := by omega
          have hg2 : (k : Int) < s.size := by omega
          have hgw : IntKind.i64.wrap ((k : Int) + 1) = k + 1 := by rw [IntKind.wrap_i64]; omega
          go_wp2_with fail
          with_reducible refine (isDigit_any _ _).mono ?_
          rintro e w' ⟨rfl, hw⟩
          obtain rfl := hw
          cases hd : Nm.digitB ((s[k].toNat : Nat) : Int)
          · have HF := Lib.hid (all_no HG.out hd)
            clear hd
            go_wp2_with fail
            go_ret
            exact ⟨by rw [HR.out, HF.out]; rfl, rfl⟩
          · have HT := Lib.hid (all_step HG.out hd HALL.out)
            clear hd
            go_wp2_with fail
            go_roundg (s.size - (k + 1))
            case measure => omega
            case rel => exact ⟨k + 1, by omega, rfl, by go_num, HT.out, rfl⟩
        · obtain rfl : k = s.size := by omega
          have hge : (s.size : Int) ≤ s.size := by omega
          have hfull : (Nm.bytesI s).all Nm.digitB = true := by have h := HALL.out; rw [List.take_of_length_le (by omega)] at h; exact h
          have HF := Lib.hid hfull
          clear hfull
          by_cases hz2 : s.size = 0
          · exact absurd hz2 hz
          · obtain ⟨h1, h2⟩ := hne.out (by omega)
            have HB : Hid ((Nm.bytesI s).isEmpty = false) := by unfold Hid; rw [List.isEmpty_eq_false_iff]; intro e; rw [e] at hbl; simp at hbl; omega
            go_wp2_with fail
            go_ret
            exact ⟨by rw [HR.out, HF.out, HB.out]; first | rfl | simp [h2], rfl⟩
end Go.Proofs.Ythbnhneibpoooaa
/- Names: the reference's numbers among texts. -/
namespace Go.Proofs.Ythbnhneibpoooaa
open Go.RowKit
set_option linter.unusedVariables false
set_option linter.unusedSimpArgs false
set_option maxHeartbeats 4000000 in
theorem rnumber2_any (s : ByteArray) (hs : s.size ≤ maxLen) (w : World) : Calls Try.prog 77 #[.string s] w fun e w' => e = .returned (.bool (Nm.numL (Nm.bytesI s))) ∧ w = w' := by
  unfold maxLen at hs
  by_cases hz : s.size = 0
  · have hb : Nm.bytesI s = [] := List.eq_nil_of_length_eq_zero (by rw [Nm.bytesI_length]; exact hz)
    have HZ : Hid (Nm.numL (Nm.bytesI s) = false) := by unfold Hid; rw [hb]; rfl
    clear hb
    go_enter Try.func77, Try.ntmps77
    go_wp2_with fail
    refine wp_loop_rounds 1 ?_
    rw [rounds_succ]
    go_wp2_with fail
    go_ret
    exact ⟨by rw [HZ.out]; first | rfl | simp [hz], rfl⟩
  · have hpos : 0 < s.size := by omega
    have hposI : (0 : Int) < s.size := by omega
    have hcons : Nm.bytesI s = ((s[0].toNat : Nat) : Int) :: (Nm.bytesI s).tail := by
      have h := Nm.bytesI_get s hpos
      cases hb : Nm.bytesI s with
      | nil => rw [hb] at h; simp at h
      | cons a l => rw [hb] at h; simp at h; rw [h]; rfl
    have HC := Lib.hid hcons
    clear hcons
    rcases (by omega : ((s[0].toNat : Nat) : Int) = 43 ∨ (((s[0].toNat : Nat) : Int) ≠ 43 ∧ ((s[0].toNat : Nat) : Int) = 45) ∨ (((s[0].toNat : Nat) : Int) ≠ 43 ∧ ((s[0].toNat : Nat) : Int) ≠ 45)) with q | ⟨q, q2⟩ | ⟨q, q2⟩
    · have b1 : (((s[0].toNat : Nat) : Int) == 43) = true := by simpa using q
      have hres : Nm.numL (Nm.bytesI s) = (((Nm.bytesI s).drop 1).all Nm.digitB && !((Nm.bytesI s).drop 1).isEmpty) := by unfold Nm.numL; rw [HC.out]; simp [Nm.unsigned, q]
      clear q
      go_enter Try.func77, Try.ntmps77
      go_wp2_with fail
      have HR := Lib.hid hres
      clear hres
      go_loopg [4] (s.size - 1) (fun gk i wx => ∃ k : Nat, 1 ≤ k ∧ k ≤ s.size ∧ gk = s.size - k ∧ i = .int .i64 k ∧ (((Nm.bytesI s).drop 1).take (k - 1)).all Nm.digitB = true ∧ w = wx)
      case atStart => exact ⟨1, Nat.le_refl _, by omega, rfl, rfl, rfl, rfl⟩
      case round =>
        obtain ⟨k, hf, hk, rfl, rfl, hall, rfl⟩ := hrel
        have HALL := Lib.hid hall
        clear hall
        by_cases hlt : k < s.size
        · have HG : Hid (((Nm.bytesI s).drop 1)[k - 1]? = some ((s[k].toNat : Nat) : Int)) := by
            unfold Hid
            rw [List.getElem?_drop]
            have e : 1 + (k - 1) = k := by omega
            rw [e]
            exact Nm.bytesI_get s hlt
          have hg1 : (0 : Int) ≤ k := by omega
          have hg2 : (k : Int) < s.size := by omega
          have hgw : IntKind.i64.wrap ((k : Int) + 1) = k + 1 := by rw [IntKind.wrap_i64]; omega
          go_wp2_with fail
          with_reducible refine (rdigit_any _ _).mono ?_
          rintro e w' ⟨rfl, hw⟩
          obtain rfl := hw
          cases hd : Nm.digitB ((s[k].toNat : Nat) : Int)
          · have HF := Lib.hid (all_no HG.out hd)
            clear hd
            go_wp2_with fail
            go_ret
            exact ⟨by rw [HR.out, HF.out]; rfl, rfl⟩
          · have HT : Hid ((((Nm.bytesI s).drop 1).take (k + 1 - 1)).all Nm.digitB = true) := by
              have h := all_step HG.out hd HALL.out
              have e : k - 1 + 1 = k + 1 - 1 := by omega
              rw [e] at h
              exact h
            clear hd
            go_wp2_with fail
            go_roundg (s.size - (k + 1))
            case measure => omega
            case rel => exact ⟨k + 1, by omega, by omega, rfl, by go_num, HT.out, rfl⟩
        · obtain rfl : k = s.size := by omega
          have hge : (s.size : Int) ≤ s.size := by omega
          have hbl := Nm.bytesI_length s
          have hdl : ((Nm.bytesI s).drop 1).length = s.size - 1 := by rw [List.length_drop, hbl]
          have hfull : ((Nm.bytesI s).drop 1).all Nm.digitB = true := by have h := HALL.out; rw [List.take_of_length_le (by simp; omega)] at h; exact h
          have HF := Lib.hid hfull
          clear hfull
          by_cases hz2 : s.size = 1
          · have HB : Hid (((Nm.bytesI s).drop 1).isEmpty = true) := by unfold Hid; rw [List.isEmpty_iff]; exact List.eq_nil_of_length_eq_zero (by simp; omega)
            have hq : ¬ (1 : Int) < s.size := by omega
            go_wp2_with fail
            go_ret
            exact ⟨by rw [HR.out, HF.out, HB.out]; first | rfl | simp [hz2], rfl⟩
          · have HB : Hid (((Nm.bytesI s).drop 1).isEmpty = false) := by unfold Hid; rw [List.isEmpty_eq_false_iff]; exact fun e => by rw [e] at hdl; exact absurd hdl.symm (by show ¬ s.size - 1 = 0; omega)
            have hq : (1 : Int) < s.size := by omega
            go_wp2_with fail
            go_ret
            exact ⟨by rw [HR.out, HF.out, HB.out]; first | rfl | (simp; omega), rfl⟩
    · have b1 : (((s[0].toNat : Nat) : Int) == 43) = false := by simpa using q
      have b2 : (((s[0].toNat : Nat) : Int) == 45) = true := by simpa using q2
      have hres : Nm.numL (Nm.bytesI s) = (((Nm.bytesI s).drop 1).all Nm.digitB && !((Nm.bytesI s).drop 1).isEmpty) := by unfold Nm.numL; rw [HC.out]; simp [Nm.unsigned, q2]
      clear q q2
      go_enter Try.func77, Try.ntmps77
      go_wp2_with fail
      have HR := Lib.hid hres
      clear hres
      go_loopg [4] (s.size - 1) (fun gk i wx => ∃ k : Nat, 1 ≤ k ∧ k ≤ s.size ∧ gk = s.size - k ∧ i = .int .i64 k ∧ (((Nm.bytesI s).drop 1).take (k - 1)).all Nm.digitB = true ∧ w = wx)
      case atStart => exact ⟨1, Nat.le_refl _, by omega, rfl, rfl, rfl, rfl⟩
      case round =>
        obtain ⟨k, hf, hk, rfl, rfl, hall, rfl⟩ := hrel
        have HALL := Lib.hid hall
        clear hall
        by_cases hlt : k < s.size
        · have HG : Hid (((Nm.bytesI s).drop 1)[k - 1]? = some ((s[k].toNat : Nat) : Int)) := by
            unfold Hid
            rw [List.getElem?_drop]
            have e : 1 + (k - 1) = k := by omega
            rw [e]
            exact Nm.bytesI_get s hlt
          have hg1 : (0 : Int) ≤ k := by omega
          have hg2 : (k : Int) < s.size := by omega
          have hgw : IntKind.i64.wrap ((k : Int) + 1) = k + 1 := by rw [IntKind.wrap_i64]; omega
          go_wp2_with fail
          with_reducible refine (rdigit_any _ _).mono ?_
          rintro e w' ⟨rfl, hw⟩
          obtain rfl := hw
          cases hd : Nm.digitB ((s[k].toNat : Nat) : Int)
          · have HF := Lib.hid (all_no HG.out hd)
            clear hd
            go_wp2_with fail
            go_ret
            exact ⟨by rw [HR.out, HF.out]; rfl, rfl⟩
          · have HT : Hid ((((Nm.bytesI s).drop 1).take (k + 1 - 1)).all Nm.digitB = true) := by
              have h := all_step HG.out hd HALL.out
              have e : k - 1 + 1 = k + 1 - 1 := by omega
              rw [e] at h
              exact h
            clear hd
            go_wp2_with fail
            go_roundg (s.size - (k + 1))
            case measure => omega
            case rel => exact ⟨k + 1, by omega, by omega, rfl, by go_num, HT.out, rfl⟩
        · obtain rfl : k = s.size := by omega
          have hge : (s.size : Int) ≤ s.size := by omega
          have hbl := Nm.bytesI_length s
          have hdl : ((Nm.bytesI s).drop 1).length = s.size - 1 := by rw [List.length_drop, hbl]
          have hfull : ((Nm.bytesI s).drop 1).all Nm.digitB = true := by have h := HALL.out; rw [List.take_of_length_le (by simp; omega)] at h; exact h
          have HF := Lib.hid hfull
          clear hfull
          by_cases hz2 : s.size = 1
          · have HB : Hid (((Nm.bytesI s).drop 1).isEmpty = true) := by unfold Hid; rw [List.isEmpty_iff]; exact List.eq_nil_of_length_eq_zero (by simp; omega)
            have hq : ¬ (1 : Int) < s.size := by omega
            go_wp2_with fail
            go_ret
            exact ⟨by rw [HR.out, HF.out, HB.out]; first | rfl | simp [hz2], rfl⟩
          · have HB : Hid (((Nm.bytesI s).drop 1).isEmpty = false) := by unfold Hid; rw [List.isEmpty_eq_false_iff]; exact fun e => by rw [e] at hdl; exact absurd hdl.symm (by show ¬ s.size - 1 = 0; omega)
            have hq : (1 : Int) < s.size := by omega
            go_wp2_with fail
            go_ret
            exact ⟨by rw [HR.out, HF.out, HB.out]; first | rfl | (simp; omega), rfl⟩
    · have b1 : (((s[0].toNat : Nat) : Int) == 43) = false := by simpa using q
      have b2 : (((s[0].toNat : Nat) : Int) == 45) = false := by simpa using q2
      have hres : Nm.numL (Nm.bytesI s) = (((Nm.bytesI s).drop 0).all Nm.digitB && !((Nm.bytesI s).drop 0).isEmpty) := by unfold Nm.numL; rw [HC.out]; simp [Nm.unsigned, q, q2]
      clear q q2
      go_enter Try.func77, Try.ntmps77
      go_wp2_with fail
      have HR := Lib.hid hres
      clear hres
      go_loopg [4] (s.size - 0) (fun gk i wx => ∃ k : Nat, 0 ≤ k ∧ k ≤ s.size ∧ gk = s.size - k ∧ i = .int .i64 k ∧ (((Nm.bytesI s).drop 0).take (k - 0)).all Nm.digitB = true ∧ w = wx)
      case atStart => exact ⟨0, Nat.le_refl _, by omega, rfl, rfl, rfl, rfl⟩
      case round =>
        obtain ⟨k, hf, hk, rfl, rfl, hall, rfl⟩ := hrel
        have HALL := Lib.hid hall
        clear hall
        by_cases hlt : k < s.size
        · have HG : Hid (((Nm.bytesI s).drop 0)[k - 0]? = some ((s[k].toNat : Nat) : Int)) := by
            unfold Hid
            rw [List.getElem?_drop]
            have e : 0 + (k - 0) = k := by omega
            rw [e]
            exact Nm.bytesI_get s hlt
          have hg1 : (0 : Int) ≤ k := by omega
          have hg2 : (k : Int) < s.size := by omega
          have hgw : IntKind.i64.wrap ((k : Int) + 1) = k + 1 := by rw [IntKind.wrap_i64]; omega
          go_wp2_with fail
          with_reducible refine (rdigit_any _ _).mono ?_
          rintro e w' ⟨rfl, hw⟩
          obtain rfl := hw
          cases hd : Nm.digitB ((s[k].toNat : Nat) : Int)
          · have HF := Lib.hid (all_no HG.out hd)
            clear hd
            go_wp2_with fail
            go_ret
            exact ⟨by rw [HR.out, HF.out]; rfl, rfl⟩
          · have HT : Hid ((((Nm.bytesI s).drop 0).take (k + 1 - 0)).all Nm.digitB = true) := by
              have h := all_step HG.out hd HALL.out
              have e : k - 0 + 1 = k + 1 - 0 := by omega
              rw [e] at h
              exact h
            clear hd
            go_wp2_with fail
            go_roundg (s.size - (k + 1))
            case measure => omega
            case rel => exact ⟨k + 1, by omega, by omega, rfl, by go_num, HT.out, rfl⟩
        · obtain rfl : k = s.size := by omega
          have hge : (s.size : Int) ≤ s.size := by omega
          have hbl := Nm.bytesI_length s
          have hdl : ((Nm.bytesI s).drop 0).length = s.size - 0 := by rw [List.length_drop, hbl]
          have hfull : ((Nm.bytesI s).drop 0).all Nm.digitB = true := by have h := HALL.out; rw [List.take_of_length_le (by simp; omega)] at h; exact h
          have HF := Lib.hid hfull
          clear hfull
          by_cases hz2 : s.size = 0
          · have HB : Hid (((Nm.bytesI s).drop 0).isEmpty = true) := by unfold Hid; rw [List.isEmpty_iff]; exact List.eq_nil_of_length_eq_zero (by simp; omega)
            have hq : ¬ (0 : Int) < s.size := by omega
            go_wp2_with fail
            go_ret
            exact ⟨by rw [HR.out, HF.out, HB.out]; first | rfl | simp [hz2], rfl⟩
          · have HB : Hid (((Nm.bytesI s).drop 0).isEmpty = false) := by unfold Hid; rw [List.isEmpty_eq_false_iff]; exact fun e => by rw [e] at hdl; exact absurd hdl.symm (by show ¬ s.size - 0 = 0; omega)
            have hq : (0 : Int) < s.size := by omega
            go_wp2_with fail
            go_ret
            exact ⟨by rw [HR.out, HF.out, HB.out]; first | rfl | (simp; omega), rfl⟩
end Go.Proofs.Ythbnhneibpoooaa
/- Names. -/
namespace Go.Proofs.Ythbnhneibpoooaa
open Go.RowKit
set_option linter.unusedVariables false
set_option linter.unusedSimpArgs false
set_option maxHeartbeats 4000000 in
theorem dname_any (s : ByteArray) (hs : s.size ≤ maxLen) (w : World) : Calls Try.prog 65 #[.string s] w fun e w' => e = .returned (.bool (Nm.nameB s)) ∧ w = w' := by
  have HS := Lib.hid hs
  unfold maxLen at hs
  have hbl := Nm.bytesI_length s
  go_enter Try.func65, Try.ntmps65
  go_wp2_with fail
  go_loopg [6] s.size (fun gk i wx => ∃ k : Nat, k ≤ s.size ∧ gk = s.size - k ∧ i = .int .i64 k ∧ ((Nm.bytesI s).take k).all Nm.byteB = true ∧ w = wx)
  case atStart => exact ⟨0, Nat.zero_le _, rfl, rfl, rfl, rfl⟩
  case round =>
    obtain ⟨k, hk, rfl, rfl, hall, rfl⟩ := hrel
    have HALL := Lib.hid hall
    clear hall
    by_cases hlt : k < s.size
    · have HG := Lib.hid (Nm.bytesI_get s hlt)
      have hg1 : (0 : Int) ≤ k := by omega
      have hg2 : (k : Int) < s.size := by omega
      have hgw : IntKind.i64.wrap ((k : Int) + 1) = k + 1 := by rw [IntKind.wrap_i64]; omega
      have hby : ((s[k].toNat : Nat) : Int) < 256 := by have := s[k].toNat_lt; omega
      go_wp2_with fail
      with_reducible refine (isName_any _ (by omega) hby _).mono ?_
      rintro e w' ⟨rfl, hw⟩
      obtain rfl := hw
      cases hd : Nm.byteB ((s[k].toNat : Nat) : Int)
      · have HF := Lib.hid (all_no HG.out hd)
        have HR : Hid (Nm.nameB s = false) := by unfold Hid Nm.nameB Nm.nameL; rw [HF.out]; rfl
        clear hd
        go_wp2_with fail
        go_ret
        exact ⟨by rw [HR.out]; rfl, rfl⟩
      · have HT := Lib.hid (all_step HG.out hd HALL.out)
        clear hd
        go_wp2_with fail
        go_roundg (s.size - (k + 1))
        case measure => omega
        case rel => exact ⟨k + 1, by omega, rfl, by go_num, HT.out, rfl⟩
    · obtain rfl : k = s.size := by omega
      have hge : (s.size : Int) ≤ s.size := by omega
      have hfull : (Nm.bytesI s).all Nm.byteB = true := by have h := HALL.out; rw [List.take_of_length_le (by omega)] at h; exact h
      have HF := Lib.hid hfull
      clear hfull
      have HTL : Hid (s.toList = s.data.toList) := Lib.toList_data s
      have HBL := Lib.hid hbl
      clear hbl
      go_wp2_with fail
      · rename_i h
        have HR : Hid (Nm.nameB s = false) := by
          have hb : Nm.bytesI s = [] := by unfold Nm.bytesI; rw [← HTL.out, h]; rfl
          unfold Hid Nm.nameB
          rw [hb]
          rfl
        go_ret
        exact ⟨by rw [HR.out]; rfl, rfl⟩
      · rename_i h _ h3
        have HR : Hid (Nm.nameB s = false) := by
          have hb : Nm.bytesI s = [46] := by unfold Nm.bytesI; rw [← HTL.out, h3]; rfl
          unfold Hid Nm.nameB
          rw [hb]
          decide
        go_ret
        exact ⟨by rw [HR.out]; rfl, rfl⟩
      · have h1 : ¬ s.toList = [] := by assumption
        have h2 : (s.size : Int) ≤ 64 := by assumption
        have h3 : ¬ s.toList = [46] := by assumption
        have hb1 : Nm.bytesI s ≠ [] := by
          intro e
          have h4 := congrArg List.length e
          rw [HBL.out] at h4
          have h5 : s.data.toList = [] := List.eq_nil_of_length_eq_zero (by rw [Array.length_toList]; exact h4)
          exact h1 (by rw [HTL.out, h5])
        have hb2 : Nm.bytesI s ≠ [46] := by
          intro e
          have h5 : s = ⟨#[46]⟩ := Nm.bytesI_inj (by rw [e]; rfl)
          exact h3 (by rw [h5, Lib.toList_data])
        have HR : Hid (Nm.nameB s = !Nm.numL (Nm.bytesI s)) := by
          have e1 : (Nm.bytesI s).isEmpty = false := by rw [List.isEmpty_eq_false_iff]; exact hb1
          unfold Hid Nm.nameB Nm.nameL
          rw [HF.out, e1, decide_eq_true (show (Nm.bytesI s).length ≤ 64 by rw [HBL.out]; omega), decide_eq_false hb2]
          rfl
        have b1 : s.toList.isEmpty = false := by simpa using h1
        have b2 : (s.toList == [46]) = false := by simpa using h3
        clear hb1 hb2
        with_reducible refine (dnumber_any s HS.out _).mono ?_
        rintro e w' ⟨rfl, hw⟩
        obtain rfl := hw
        generalize Nm.numL (Nm.bytesI s) = q at *
        cases q
        all_goals
          go_wp2_with fail
          go_ret
          exact ⟨by rw [HR.out]; rfl, rfl⟩
      · have h2 : (64 : Int) < s.size := by assumption
        have HR : Hid (Nm.nameB s = false) := by
          unfold Hid Nm.nameB Nm.nameL
          rw [decide_eq_false (show ¬ (Nm.bytesI s).length ≤ 64 by rw [HBL.out]; omega)]
          simp
        go_ret
        exact ⟨by rw [HR.out]; rfl, rfl⟩
end Go.Proofs.Ythbnhneibpoooaa
/- Names: the reference's. -/
namespace Go.Proofs.Ythbnhneibpoooaa
open Go.RowKit
set_option linter.unusedVariables false
set_option linter.unusedSimpArgs false
set_option maxHeartbeats 4000000 in
theorem rname_any (s : ByteArray) (hs : s.size ≤ maxLen) (w : World) : Calls Try.prog 62 #[.string s] w fun e w' => e = .returned (.bool (Nm.nameB s)) ∧ w = w' := by
  have HS := Lib.hid hs
  unfold maxLen at hs
  have HTL : Hid (s.toList = s.data.toList) := Lib.toList_data s
  have HBL : Hid ((Nm.bytesI s).length = s.size) := Nm.bytesI_length s
  rcases (by omega : s.size < 1 ∨ (1 ≤ s.size ∧ 64 < s.size) ∨ (1 ≤ s.size ∧ s.size ≤ 64)) with h | ⟨h, h2⟩ | ⟨h, h2⟩
  · have hb : Nm.bytesI s = [] := List.eq_nil_of_length_eq_zero (by rw [HBL.out]; omega)
    have HR : Hid (Nm.nameB s = false) := by unfold Hid Nm.nameB; rw [hb]; rfl
    have hi : (s.size : Int) < 1 := by omega
    clear hb
    go_enter Try.func62, Try.ntmps62
    go_wp2_with fail
    go_ret
    exact ⟨by rw [HR.out]; rfl, rfl⟩
  · have HR : Hid (Nm.nameB s = false) := by
      unfold Hid Nm.nameB Nm.nameL
      rw [decide_eq_false (show ¬ (Nm.bytesI s).length ≤ 64 by rw [HBL.out]; omega)]
      simp
    have hi : ¬ (s.size : Int) < 1 := by omega
    have hj : (64 : Int) < s.size := by omega
    go_enter Try.func62, Try.ntmps62
    go_wp2_with fail
    go_ret
    exact ⟨by rw [HR.out]; rfl, rfl⟩
  · have hi : ¬ (s.size : Int) < 1 := by omega
    have hj : ¬ (64 : Int) < s.size := by omega
    have HE : Hid ((Nm.bytesI s).isEmpty = false) := by unfold Hid; rw [List.isEmpty_eq_false_iff]; intro e; have h4 := congrArg List.length e; rw [HBL.out] at h4; exact absurd h4 (by show ¬ s.size = 0; omega)
    by_cases hd : s.toList = [46]
    · have HR : Hid (Nm.nameB s = false) := by
        have hb : Nm.bytesI s = [46] := by unfold Nm.bytesI; rw [← HTL.out, hd]; rfl
        unfold Hid Nm.nameB
        rw [hb]
        decide
      go_enter Try.func62, Try.ntmps62
      go_wp2_with fail
      go_ret
      exact ⟨by rw [HR.out]; rfl, rfl⟩
    · have b2 : (s.toList == [46]) = false := by simpa using hd
      have hb2 : Nm.bytesI s ≠ [46] := by
        intro e
        have h5 : s = ⟨#[46]⟩ := Nm.bytesI_inj (by rw [e]; rfl)
        exact hd (by rw [h5, Lib.toList_data])
      have HR : Hid (Nm.nameB s = ((Nm.bytesI s).all Nm.byteB && !Nm.numL (Nm.bytesI s))) := by
        unfold Hid Nm.nameB Nm.nameL
        rw [HE.out, decide_eq_true (show (Nm.bytesI s).length ≤ 64 by rw [HBL.out]; omega), decide_eq_false hb2]
        simp
      clear hb2
      cases hn : Nm.numL (Nm.bytesI s)
      · have HN := Lib.hid hn
        clear hn
        go_enter Try.func62, Try.ntmps62
        go_wp2_with fail
        with_reducible refine (rnumber2_any s HS.out _).mono ?_
        rintro e w' ⟨rfl, hw⟩
        obtain rfl := hw
        rw [HN.out]
        go_wp2_with fail
        go_loopg [3] s.size (fun gk i wx => ∃ k : Nat, k ≤ s.size ∧ gk = s.size - k ∧ i = .int .i64 k ∧ ((Nm.bytesI s).take k).all Nm.byteB = true ∧ w = wx)
        case atStart => exact ⟨0, Nat.zero_le _, rfl, rfl, rfl, rfl⟩
        case round =>
          obtain ⟨k, hk, rfl, rfl, hall, rfl⟩ := hrel
          have HALL := Lib.hid hall
          clear hall
          by_cases hlt : k < s.size
          · have HG := Lib.hid (Nm.bytesI_get s hlt)
            have hg1 : (0 : Int) ≤ k := by omega
            have hg2 : (k : Int) < s.size := by omega
            have hgw : IntKind.i64.wrap ((k : Int) + 1) = k + 1 := by rw [IntKind.wrap_i64]; omega
            have hby : ((s[k].toNat : Nat) : Int) < 256 := by have := s[k].toNat_lt; omega
            go_wp2_with fail
            with_reducible refine (rbyte_any _ (by omega) hby _).mono ?_
            rintro e w' ⟨rfl, hw⟩
            obtain rfl := hw
            cases hd2 : Nm.byteB ((s[k].toNat : Nat) : Int)
            · have HF := Lib.hid (all_no HG.out hd2)
              clear hd2
              go_wp2_with fail
              go_ret
              exact ⟨by rw [HR.out, HF.out]; rfl, rfl⟩
            · have HT := Lib.hid (all_step HG.out hd2 HALL.out)
              clear hd2
              go_wp2_with fail
              go_roundg (s.size - (k + 1))
              case measure => omega
              case rel => exact ⟨k + 1, by omega, rfl, by go_num, HT.out, rfl⟩
          · obtain rfl : k = s.size := by omega
            have hge : (s.size : Int) ≤ s.size := by omega
            have hfull : (Nm.bytesI s).all Nm.byteB = true := by have h := HALL.out; rw [List.take_of_length_le (by have := HBL.out; omega)] at h; exact h
            have HF := Lib.hid hfull
            clear hfull
            go_wp2_with fail
            go_ret
            exact ⟨by rw [HR.out, HF.out, HN.out]; rfl, rfl⟩
      · have HN := Lib.hid hn
        clear hn
        go_enter Try.func62, Try.ntmps62
        go_wp2_with fail
        with_reducible refine (rnumber2_any s HS.out _).mono ?_
        rintro e w' ⟨rfl, hw⟩
        obtain rfl := hw
        rw [HN.out]
        go_wp2_with fail
        go_ret
        exact ⟨by rw [HR.out, HN.out]; simp, rfl⟩
end Go.Proofs.Ythbnhneibpoooaa
/- Contracts of the functions of package word and of its reference. -/
namespace Go.Proofs.Ythbnhneibpoooaa
open Go.RowKit
set_option linter.unusedVariables false

theorem isNumber_any (n : Int) (w : World) :
    Calls Try.prog 71 #[.int .i64 n] w fun e w' => e = .returned (.bool (isN n)) ∧ w' = w := by
  by_cases h1 : -1152921504606846976 ≤ n
  · by_cases h2 : n ≤ 1152921504606846975
    · rw [isN_true ⟨h1, h2⟩]
      go_enter Try.func71, Try.ntmps71
      go_wp2
      go_ret
      exact ⟨by simp [h2], rfl⟩
    · rw [isN_false (by omega)]
      go_enter Try.func71, Try.ntmps71
      go_wp2
      go_ret
      exact ⟨by simp [h2], rfl⟩
  · rw [isN_false (by omega)]
    go_enter Try.func71, Try.ntmps71
    go_wp2
    go_ret
    exact ⟨rfl, rfl⟩

theorem lay_any (t n : Int) (w : World) (h1 : -1152921504606846976 ≤ n) (h2 : n ≤ 1152921504606846975) (h3 : 0 ≤ t) (h4 : t < 8) :
    Calls Try.prog 72 #[.int .i64 t, .int .i64 n] w fun e w' => e = .returned (.int .i64 (8 * n + t)) ∧ w' = w := by
  have hb := i64_or8 n t (by omega) (by omega) h3 h4
  go_enter Try.func72, Try.ntmps72
  go_wp2
  go_ret
  exact ⟨rfl, rfl⟩

theorem tag_any (n : Int) (w : World) :
    Calls Try.prog 73 #[.int .i64 n] w fun e w' => e = .returned (.int .i64 (n % 8)) ∧ w' = w := by
  have hb := i64_and7 n
  go_enter Try.func73, Try.ntmps73
  go_wp2
  go_ret
  exact ⟨rfl, rfl⟩

theorem value_any (n : Int) (w : World) :
    Calls Try.prog 55 #[.int .i64 n] w fun e w' => e = .returned (.int .i64 (n / 8)) ∧ w' = w := by
  go_enter Try.func55, Try.ntmps55
  go_wp2
  go_ret
  exact ⟨rfl, rfl⟩

theorem int_ok (n : Int) (w : World) (h1 : -1152921504606846976 ≤ n) (h2 : n ≤ 1152921504606846975) :
    Calls Try.prog 53 #[.int .i64 n] w fun e w' => e = .returned (.tuple #[.int .i64 (8 * n), .int .i64 0]) ∧ w' = w := by
  have hi := isN_true ⟨h1, h2⟩
  go_enter Try.func53, Try.ntmps53
  go_wp2_with (first | (go_at_call 71; refine (isNumber_any _ _).mono ?_; rintro e w' ⟨rfl, rfl⟩) | (go_at_call 72; refine (lay_any _ _ _ h1 h2 (by omega) (by omega)).mono ?_; rintro e w' ⟨rfl, rfl⟩))
  go_ret2
  exact ⟨by simp, rfl⟩

theorem int_no (n : Int) (w : World) (h1 : n < -1152921504606846976 ∨ 1152921504606846975 < n) :
    Calls Try.prog 53 #[.int .i64 n] w fun e w' => e = .returned (.tuple #[.int .i64 0, .int .i64 10]) ∧ w' = w := by
  have hi := isN_false h1
  clear h1
  go_enter Try.func53, Try.ntmps53
  go_wp2_with (first | (go_at_call 71; refine (isNumber_any _ _).mono ?_; rintro e w' ⟨rfl, rfl⟩))
  go_ret2
  exact ⟨rfl, rfl⟩

/-- Int's answer by cases. -/
def intA (n : Int) : Int × Int := if isN n then (8 * n, 0) else (0, 10)

theorem int_any (n : Int) (w : World) :
    Calls Try.prog 53 #[.int .i64 n] w fun e w' => e = .returned (.tuple #[.int .i64 (intA n).1, .int .i64 (intA n).2]) ∧ w' = w := by
  by_cases h : -1152921504606846976 ≤ n ∧ n ≤ 1152921504606846975
  · have := int_ok n w h.1 h.2
    unfold intA; rw [if_pos (isN_true h)]; exact this
  · have := int_no n w (by omega)
    unfold intA; rw [isN_false (by omega)]; exact this

/-- tagged's answer by cases. -/
def tagA (t n : Int) : Int × Int := if 0 ≤ n ∧ n ≤ 1152921504606846975 then (8 * n + t, 0) else (0, 1)

/-- Head's answer by cases. -/
def headA (k s : Int) : Int × Int := if 0 ≤ k ∧ k ≤ 7 ∧ 0 ≤ s ∧ s ≤ 1099511627776 then (8 * (8 * s + k) + 7, 0) else (0, 1)

/-! ### bits.Mul64 and times -/
theorem maskN (a : Nat) (ha : a < 18446744073709551616) : bits .and .u64 (a : Int) 4294967295 = ((a % 4294967296 : Nat) : Int) := by
  have h := bits_and_u64_nat a 4294967295 ha (by omega)
  have e : a &&& 4294967295 = a % 4294967296 := Nat.and_two_pow_sub_one_eq_mod a 32
  rw [e] at h
  exact h
theorem divN (a : Nat) : (a : Int) / 4294967296 = ((a / 4294967296 : Nat) : Int) := by omega
theorem mulN (a b : Nat) : (a : Int) * (b : Int) = ((a * b : Nat) : Int) := (Int.natCast_mul a b).symm
theorem addN (a b : Nat) : (a : Int) + (b : Int) = ((a + b : Nat) : Int) := (Int.natCast_add a b).symm
theorem wrapN (a : Nat) (ha : a < 18446744073709551616) : IntKind.u64.wrap (a : Int) = (a : Int) := by rw [IntKind.wrap_u64]; omega
theorem wrapM (a : Nat) : IntKind.u64.wrap (a : Int) = ((a % 18446744073709551616 : Nat) : Int) := by rw [IntKind.wrap_u64]; omega

set_option maxHeartbeats 1000000 in
theorem mul64_any (x y : Nat) (hx : x < 18446744073709551616) (hy : y < 18446744073709551616) (w : World) :
    Calls Try.prog 88 #[.int .u64 x, .int .u64 y] w fun e w' => e = .returned (.tuple #[.int .u64 ((x * y / 18446744073709551616 : Nat) : Int), .int .u64 ((x * y % 18446744073709551616 : Nat) : Int)]) ∧ w' = w := by
  obtain ⟨bd, bt, bw, hhi⟩ := Lib.mul64_hi x y hx hy
  have ba := Lib.half_mul_le (a := x / 4294967296) (b := y / 4294967296) (by omega) (by omega)
  have bb := Lib.half_mul_le (a := x / 4294967296) (b := y % 4294967296) (by omega) (by omega)
  have bc := Lib.half_mul_le (a := x % 4294967296) (b := y / 4294967296) (by omega) (by omega)
  have ba' : x / 4294967296 * (y / 4294967296) < 18446744073709551616 := by omega
  have bb' : x / 4294967296 * (y % 4294967296) < 18446744073709551616 := by omega
  have bc' : x % 4294967296 * (y / 4294967296) < 18446744073709551616 := by omega
  have bh1 : x / 4294967296 * (y / 4294967296) + (x / 4294967296 * (y % 4294967296) + x % 4294967296 * (y % 4294967296) / 4294967296) / 4294967296 < 18446744073709551616 := by omega
  have bh : x / 4294967296 * (y / 4294967296) + (x / 4294967296 * (y % 4294967296) + x % 4294967296 * (y % 4294967296) / 4294967296) / 4294967296 + ((x / 4294967296 * (y % 4294967296) + x % 4294967296 * (y % 4294967296) / 4294967296) % 4294967296 + x % 4294967296 * (y / 4294967296)) / 4294967296 < 18446744073709551616 := by omega
  go_enter Try.func88, Try.ntmps88
  go_wp2
  simp only [maskN x hx, maskN y hy, divN, mulN, addN, wrapN _ bd, wrapN _ bb', wrapN _ bt, maskN _ bt, wrapN _ bc', wrapN _ bw, wrapN _ ba', wrapN _ bh1, wrapN _ bh, wrapM (x * y)]
  rw [hhi]
  go_ret2
  exact ⟨rfl, rfl⟩
end Go.Proofs.Ythbnhneibpoooaa
