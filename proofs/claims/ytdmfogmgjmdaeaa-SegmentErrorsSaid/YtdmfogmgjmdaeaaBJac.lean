/- Encode. -/
import Derived.Test.YtdmfogmgjmdaeaaBJab
import Derived.Laws.BitsAllLaws
set_option linter.unusedVariables false
set_option linter.unusedSimpArgs false
set_option linter.unnecessarySimpa false
namespace Go.Proofs.Ytdmfogmgjmdaeaa
open Go.RowKit
set_option maxRecDepth 100000
set_option linter.unusedSimpArgs false
set_option linter.unusedVariables false
namespace Rs
def Bad (op a b c n : Int) : Prop :=
  form op = 7 ∨ isReg a = false ∨ isReg b = false ∨ isReg c = false ∨ ((form op = 0 ∨ form op = 3 ∨ form op = 5) ∧ b ≠ 0) ∨ (form op ≠ 1 ∧ c ≠ 0) ∨ n < least op ∨ most op < n
instance (op a b c n : Int) : Decidable (Bad op a b c n) := by unfold Bad; exact inferInstance
def nmod (op : Int) : Int := if form op = 2 ∨ form op = 3 then 65536 else if form op = 4 then 1024 else if form op = 5 then 2097152 else 1
def enc (op a b c n : Int) : Int := op * 67108864 + a * 2097152 + b * 65536 + c * 2048 + n % nmod op
def encW (op a b c n : Int) : Int := if Bad op a b c n then 0 else enc op a b c n
def encE (op a b c n : Int) : Int := if Bad op a b c n then 200 else 0

theorem form_range (op : Int) (h : form op ≠ 7) : 0 ≤ op ∧ op ≤ 31 := by
  unfold form at h
  repeat' split at h
  all_goals first | omega | exact absurd rfl h
theorem form_8 (op : Int) : form op = 0 ∨ form op = 1 ∨ form op = 2 ∨ form op = 3 ∨ form op = 4 ∨ form op = 5 ∨ form op = 6 ∨ form op = 7 := by
  unfold form
  repeat' split
  all_goals simp
theorem isReg_range {n : Int} (h : isReg n = true) : 0 ≤ n ∧ n ≤ 31 := of_decide_eq_true h

theorem ret2_u32 {a b : Int} {v : Value} (h : a = b) : Ending.returned (.tuple #[.int .u32 a, v]) = .returned (.tuple #[.int .u32 b, v]) := by rw [h]
end Rs
end Go.Proofs.Ytdmfogmgjmdaeaa
namespace Go.Proofs.Ytdmfogmgjmdaeaa
open Go.RowKit
set_option maxRecDepth 100000
set_option linter.unusedVariables false
set_option linter.unusedSimpArgs false
namespace As
structure It where
  kind : Int
  op : Int
  a : Int
  b : Int
  c : Int
  n : Int
  label : Int
  num : Int
deriving DecidableEq
def It.cells (x : It) : List Value := [.int .i64 x.kind, .int .i64 x.op, .int .i64 x.a, .int .i64 x.b, .int .i64 x.c, .int .i64 x.n, .int .i64 x.label, .int .i64 x.num]
def It.val (x : It) : Value := .agg x.cells.toArray
def flat (l : List It) : List Value := l.flatMap It.cells
def encOk (x : It) : Bool := decide (Rs.encE x.op x.a x.b x.c x.n = 0)
def may (x : It) : Bool :=
  if x.kind = 0 then encOk x && decide (x.label = 0) && decide (x.num = 0)
  else if x.kind = 1 then decide (x.op = 0 ∧ x.a = 0 ∧ x.b = 0 ∧ x.c = 0 ∧ x.n = 0) && decide (x.num = 0)
  else if x.kind = 2 then encOk x && decide (24 ≤ x.op) && decide (x.op ≤ 27) && decide (x.n = 0) && decide (x.num = 0)
  else if x.kind = 3 then encOk x && decide (x.op = 28) && decide (x.n = 0) && decide (x.num = 0)
  else if x.kind = 4 then encOk x && decide (x.op = 20) && decide (x.n = 0) && decide (x.label = 0)
  else if x.kind = 5 then encOk x && decide (x.op = 20) && decide (x.n = 0) && decide (x.num = 0)
  else false
def isLabel (x : It) (k : Int) : Bool := decide (x.kind = 1) && decide (x.label = k)
def find (k : Int) : List It → Option Nat
  | [] => none
  | x :: l => if isLabel x k = true then some 0 else (find k l).map (· + 1)
def names (x : It) : Bool := decide (x.kind = 2) || decide (x.kind = 3) || decide (x.kind = 5)
def errA (pre : List It) : List It → Int
  | [] => 0
  | x :: l => if may x = false then 210 else if x.kind = 1 ∧ (find x.label pre).isSome = true then 211 else errA (pre ++ [x]) l
def errN (all : List It) : List It → Int
  | [] => 0
  | x :: l => if names x = true ∧ find x.label all = none then 212 else errN all l
def err (l : List It) : Int := if 65536 < l.length then 213 else if errA [] l ≠ 0 then errA [] l else errN l l
def pieces (n : Int) : Nat :=
  if -32768 ≤ n ∧ n ≤ 32767 then 1 else if -2147483648 ≤ n ∧ n ≤ 2147483647 then 2 else if -140737488355328 ≤ n ∧ n ≤ 140737488355327 then 3 else 4
def size (x : It) (long : Bool) : Nat :=
  if x.kind = 1 then 0 else if x.kind = 2 then (if long = true then 2 else 1) else if x.kind = 4 then pieces x.num else if x.kind = 5 then 2 else 1
def places : List It → List Bool → Nat → List Nat
  | x :: l, b :: bs, k => k :: places l bs (k + size x b)
  | _, _, _ => []
def total : List It → List Bool → Nat → Nat
  | x :: l, b :: bs, k => total l bs (k + size x b)
  | _, _, k => k
def far (all : List It) (ps : List Nat) (x : It) (p : Nat) : Int := (((find x.label all).bind fun i => ps[i]?).getD 0 : Nat) - (p : Int)
def stretch (all : List It) (ps : List Nat) (x : It) (b : Bool) (p : Nat) : Bool := b || (decide (x.kind = 2) && (decide (far all ps x p < -512) || decide (511 < far all ps x p)))
def grow (all : List It) (ps : List Nat) : List It → List Bool → List Nat → List Bool
  | x :: l, b :: bs, p :: qs => stretch all ps x b p :: grow all ps l bs qs
  | _, _, _ => []
def layout (l : List It) : Nat → List Bool → List Bool
  | 0, bs => bs
  | k + 1, bs => if grow l (places l bs 0) l bs (places l bs 0) = bs then bs else layout l k (grow l (places l bs 0) l bs (places l bs 0))
def longs (l : List It) : List Bool := layout l (l.length + 1) (List.replicate l.length false)
def tailP (r n : Int) : Nat → List Int
  | 0 => []
  | k + 1 => Rs.encW 21 r 0 0 (n / 2 ^ (16 * k) % 65536) :: tailP r n k
def number (r n : Int) (k : Nat) : List Int := Rs.encW 20 r 0 0 ((n / 2 ^ (16 * (k - 1)) + 32768) % 65536 - 32768) :: tailP r n (k - 1)
def opposite (op : Int) : Int := if op = 24 then 25 else if op = 25 then 24 else if op = 26 then 27 else 26
def words (x : It) (long : Bool) (p : Nat) (f : Int) : List Int :=
  if x.kind = 0 then [Rs.encW x.op x.a x.b x.c x.n]
  else if x.kind = 2 then (if long = true then [Rs.encW (opposite x.op) x.a x.b 0 2, Rs.encW 28 0 0 0 (f - 1)] else [Rs.encW x.op x.a x.b x.c f])
  else if x.kind = 3 then [Rs.encW x.op x.a x.b x.c f]
  else if x.kind = 4 then number x.a x.num (pieces x.num)
  else if x.kind = 5 then number x.a (f + p) 2
  else []
def write (all : List It) (ps : List Nat) : List It → List Bool → List Nat → List Int
  | x :: l, b :: bs, p :: qs => words x b p (far all ps x p) ++ write all ps l bs qs
  | _, _, _ => []
def places0 (l : List It) : List Nat := places l (longs l) 0
def code (l : List It) : List Int := write l (places0 l) l (longs l) (places0 l)

theorem grow_length (all : List It) (ps : List Nat) : ∀ (l : List It) (bs : List Bool) (qs : List Nat), bs.length = l.length → qs.length = l.length → (grow all ps l bs qs).length = l.length
  | [], _, _, _, _ => by simp [grow]
  | x :: l, b :: bs, q :: qs, h1, h2 => by simp [grow, grow_length all ps l bs qs (by simpa using h1) (by simpa using h2)]
  | x :: l, [], _, h1, _ => by simp at h1
  | x :: l, _ :: _, [], _, h2 => by simp at h2
theorem places_length : ∀ (l : List It) (bs : List Bool) (k : Nat), bs.length = l.length → (places l bs k).length = l.length
  | [], _, _, _ => by simp [places]
  | x :: l, b :: bs, k, h => by simp [places, places_length l bs _ (by simpa using h)]
  | x :: l, [], _, h => by simp at h
theorem grow_count (all : List It) (ps : List Nat) : ∀ (l : List It) (bs : List Bool) (qs : List Nat), bs.length = l.length → qs.length = l.length → grow all ps l bs qs ≠ bs → bs.count true < (grow all ps l bs qs).count true
  | [], bs, _, h, _, hne => by have : bs = [] := List.eq_nil_of_length_eq_zero (by simpa using h); subst this; simp [grow] at hne
  | x :: l, b :: bs, q :: qs, h1, h2, hne => by
    have hle : ∀ (l : List It) (bs : List Bool) (qs : List Nat), bs.length = l.length → qs.length = l.length → bs.count true ≤ (grow all ps l bs qs).count true := by
      intro l
      induction l with
      | nil => intro bs qs h _; have : bs = [] := List.eq_nil_of_length_eq_zero (by simpa using h); subst this; simp
      | cons y l ih =>
        intro bs qs h1 h2
        match bs, qs, h1, h2 with
        | b :: bs, q :: qs, h1, h2 =>
          have := ih bs qs (by simpa using h1) (by simpa using h2)
          simp only [grow, List.count_cons]
          have hb : (if (b == true) = true then 1 else 0) ≤ (if (stretch all ps y b q == true) = true then 1 else 0) := by
            cases b <;> simp [stretch]
          omega
    simp only [grow] at hne ⊢
    simp only [List.count_cons]
    have hl := hle l bs qs (by simpa using h1) (by simpa using h2)
    by_cases hx : stretch all ps x b q = b
    · rw [hx] at hne ⊢
      have := grow_count all ps l bs qs (by simpa using h1) (by simpa using h2) (fun e => hne (by rw [e]))
      omega
    · have hbf : b = false := by
        cases b with
        | false => rfl
        | true => exact absurd (by simp [stretch]) hx
      subst hbf
      have hs : stretch all ps x false q = true := by
        cases h : stretch all ps x false q with
        | true => rfl
        | false => exact absurd h hx
      rw [hs]
      simp
      omega
  | x :: l, [], _, h1, _, _ => by simp at h1
  | x :: l, _ :: _, [], _, h2, _ => by simp at h2
theorem layout_fix (l : List It) : ∀ (k : Nat) (bs : List Bool), bs.length = l.length → l.length < k + bs.count true → grow l (places l (layout l k bs) 0) l (layout l k bs) (places l (layout l k bs) 0) = layout l k bs ∧ (layout l k bs).length = l.length
  | 0, bs, h, hk => by
    have := List.count_le_length (a := true) (l := bs)
    omega
  | k + 1, bs, h, hk => by
    unfold layout
    split
    · rename_i he
      exact ⟨he, h⟩
    · rename_i he
      have hp := places_length l bs 0 h
      have hc := grow_count l (places l bs 0) l bs (places l bs 0) h hp he
      exact layout_fix l k _ (grow_length _ _ _ _ _ h hp) (by omega)
theorem longs_fix (l : List It) : grow l (places0 l) l (longs l) (places0 l) = longs l ∧ (longs l).length = l.length := layout_fix l _ _ (by simp) (by omega)
end As
end Go.Proofs.Ytdmfogmgjmdaeaa
namespace Go.Proofs.Ytdmfogmgjmdaeaa
set_option linter.unusedVariables false
namespace Sg
open As
def lab (n : Int) : It := ⟨1, 0, 0, 0, 0, 0, n, 0⟩
def thr (op a x y : Int) : It := ⟨0, op, a, x, y, 0, 0, 0⟩
def wth (op a x n : Int) : It := ⟨0, op, a, x, 0, n, 0, 0⟩
def nmb (a n : Int) : It := ⟨4, 20, a, 0, 0, 0, 0, n⟩
def plc (a l : Int) : It := ⟨5, 20, a, 0, 0, 0, l, 0⟩
def iff (op x y l : Int) : It := ⟨2, op, x, y, 0, 0, l, 0⟩
def jmp (a l : Int) : It := ⟨3, 28, a, 0, 0, 0, l, 0⟩
def startL : List It := [lab 9, wth 22 29 0 (28), plc 27 5, wth 18 27 27 (15), wth 23 27 0 (32), nmb 30 (33), nmb 27 (18), wth 23 27 0 (25), wth 23 27 0 (26), nmb 26 (2), jmp 31 2, nmb 27 (111), wth 23 27 29 (0), plc 27 10, wth 18 27 27 (3), wth 23 27 29 (1), wth 18 25 29 3, wth 17 25 25 1, wth 15 29 29 (2), nmb 28 (0), jmp 0 10]
def callL : List It := [lab 2, thr 1 27 29 26, wth 22 28 0 (29), iff 26 28 27 1, wth 29 0 31 0, lab 3, wth 16 26 25 (7), nmb 27 (1), iff 25 26 27 21, wth 19 26 25 (3), wth 22 27 26 (0), wth 19 27 27 (3), wth 16 27 27 (7), nmb 31 (5), iff 24 27 31 2009, nmb 31 (7), iff 25 27 31 21, lab 2009, wth 22 26 26 (1), wth 19 26 26 (3), wth 29 0 26 0, lab 4, wth 22 26 30 (-1), wth 19 26 26 (15), wth 29 0 26 0]
def frameL : List It := [wth 22 26 30 (-1), wth 19 26 26 (3), wth 16 26 26 (4095), wth 15 27 26 (2), wth 18 27 27 (3), wth 17 27 27 (6), wth 18 27 27 (3), wth 17 27 27 (7), wth 23 27 29 (0), wth 15 26 26 (1), thr 2 28 30 26, nmb 27 (33), iff 24 28 27 2005, thr 1 27 29 26, wth 15 27 27 (2), wth 18 27 27 (3), wth 17 27 27 (1), wth 23 27 29 (1), jmp 0 2006, lab 2005, wth 23 31 29 (1), lab 2006, wth 15 29 29 (2), wth 15 30 28 0, lab 2002, iff 24 26 0 2003, wth 22 27 30 (0), wth 23 27 29 (0), wth 15 30 30 (1), wth 15 29 29 (1), wth 15 26 26 (-1), jmp 0 2002, lab 2003, wth 15 30 28 0]
def flushL : List It := [lab 6, nmb 26 (33), iff 25 26 30 2000, wth 29 0 31 0, lab 2000, wth 23 31 0 (27), wth 15 26 30 (-33), wth 18 27 26 (1), thr 1 26 26 27, jmp 31 2, wth 22 31 0 (25), wth 18 27 29 (3), wth 17 27 27 (1), wth 23 27 0 (25), lab 2001] ++ frameL ++ [nmb 27 (33), iff 25 30 27 2001, wth 22 31 0 (27), wth 29 0 31 0]
def underL : List It := [lab 5, wth 22 26 0 (25), nmb 27 (18), iff 25 26 27 2007, wth 0 0 0 (0), lab 2007, wth 19 26 26 (3), wth 22 27 26 (1), wth 23 27 0 (25), wth 22 27 26 (0), wth 19 27 27 (6), thr 1 27 27 26, wth 15 26 26 (2), nmb 30 (33), lab 2004, iff 26 27 26 2008, wth 22 28 26 (0), wth 23 28 30 (0), wth 15 26 26 (1), wth 15 30 30 (1), jmp 0 2004, lab 2008, jmp 0 4]
def catchL : List It := [lab 7, jmp 31 6, nmb 26 (3), jmp 31 2, nmb 27 (191), wth 23 27 29 (0), plc 27 8, wth 18 27 27 (3), wth 23 27 29 (1), wth 22 27 0 (25), wth 23 27 29 (2), wth 18 1 29 3, wth 17 1 1 1, wth 15 29 29 (3), nmb 28 (1), jmp 0 3, lab 8, nmb 26 (1), iff 25 26 28 22, wth 19 26 25 (3), wth 22 27 26 (2), wth 23 27 0 (25), nmb 30 (33), jmp 0 4]
def errL : Nat → List It
  | 0 => []
  | k + 1 => errL k ++ [lab (11 + k), nmb 26 (80 + k), wth 0 26 0 0]
def rtL : List It := startL ++ callL ++ flushL ++ underL ++ catchL ++ errL 16
def forwardL : List It := [lab 1003, iff 27 3 4 1005, wth 22 6 3 (0), wth 16 7 6 (7), nmb 8 (1), iff 25 7 8 1004, wth 19 7 6 (3), wth 22 9 7 (0), wth 16 10 9 (7), iff 24 10 8 1007, wth 19 10 9 (6), wth 18 6 1 (3), wth 17 6 6 (1), wth 23 9 1 (0), wth 23 6 7 (0), wth 23 6 3 (0), wth 15 1 1 (1), lab 1006, iff 24 10 0 1004, wth 15 7 7 (1), wth 22 9 7 (0), wth 23 9 1 (0), wth 15 1 1 (1), wth 15 10 10 (-1), jmp 0 1006, lab 1007, wth 23 9 3 (0), lab 1004, wth 15 3 3 (1), jmp 0 1003, lab 1005, wth 29 0 5 0]
def storeL : Nat → List It
  | 0 => []
  | k + 1 => storeL k ++ [wth 23 (k + 1) 0 k]
def loadL : Nat → List It
  | 0 => []
  | k + 1 => loadL k ++ [wth 22 (k + 1) 0 k]
def midL : List It := [wth 22 1 0 (30), wth 15 2 1 0, nmb 3 (0), nmb 4 (27), jmp 5 1003, nmb 3 (32), wth 15 4 30 0, jmp 5 1003, lab 1000, iff 27 2 1 1001, wth 15 3 2 0, wth 15 4 1 0, wth 15 2 1 0, jmp 5 1003, jmp 0 1000, lab 1001, wth 22 3 0 (28), wth 22 4 0 (30), wth 23 4 0 (28), wth 23 3 0 (30), wth 22 3 0 (29), wth 22 4 0 (31), wth 23 4 0 (29), wth 23 3 0 (31), wth 15 29 1 0, thr 1 3 1 26, wth 22 4 0 (29), iff 26 4 3 1002]
def endL : List It := [wth 29 0 31 0, lab 1002, nmb 26 (95), wth 0 26 0 0] ++ forwardL
def gcL : List It := [lab 1] ++ storeL 25 ++ midL ++ loadL 25 ++ endL
end Sg
end Go.Proofs.Ytdmfogmgjmdaeaa
namespace Go.Proofs.Ytdmfogmgjmdaeaa
open Go.RowKit
set_option maxRecDepth 100000
set_option linter.unusedVariables false
set_option linter.unusedSimpArgs false
namespace As
theorem tailP_length (r n : Int) : ∀ k, (tailP r n k).length = k
  | 0 => rfl
  | k + 1 => by simp [tailP, tailP_length r n k]
theorem pieces_pos (n : Int) : 1 ≤ pieces n ∧ pieces n ≤ 4 := by
  unfold pieces
  repeat' split
  all_goals omega
theorem number_length (r n : Int) {k : Nat} (h : 1 ≤ k) : (number r n k).length = k := by
  unfold number
  simp [tailP_length]
  omega
theorem may_kind {x : It} (h : may x = true) : x.kind = 0 ∨ x.kind = 1 ∨ x.kind = 2 ∨ x.kind = 3 ∨ x.kind = 4 ∨ x.kind = 5 := by
  unfold may at h
  repeat' split at h
  all_goals first | omega | (simp at h)
theorem words_length {x : It} (h : may x = true) (b : Bool) (p : Nat) (f : Int) : (words x b p f).length = size x b := by
  unfold words size
  rcases may_kind h with k | k | k | k | k | k <;> rw [k] <;> simp
  · cases b <;> simp
  · exact number_length _ _ (pieces_pos _).1
  · exact number_length _ _ (by omega)
theorem size_le (x : It) (b : Bool) : size x b ≤ 4 := by
  unfold size
  have := pieces_pos x.num
  repeat' split
  all_goals omega
theorem places_get : ∀ (l : List It) (bs : List Bool) (k i : Nat), bs.length = l.length → i < l.length → (places l bs k)[i]? = some (total (l.take i) (bs.take i) k)
  | [], _, _, _, _, h => by simp at h
  | x :: l, b :: bs, k, 0, _, _ => by simp [places, total]
  | x :: l, b :: bs, k, i + 1, h1, h2 => by
    simp only [places, List.getElem?_cons_succ, List.take_succ_cons, total]
    exact places_get l bs _ i (by simpa using h1) (by simpa using h2)
  | x :: l, [], _, _, h, _ => by simp at h
theorem total_le : ∀ (l : List It) (bs : List Bool) (k : Nat), k ≤ total l bs k ∧ total l bs k ≤ k + 4 * l.length
  | [], bs, k => by simp [total]
  | x :: l, [], k => by simp [total]
  | x :: l, b :: bs, k => by
    have h1 := total_le l bs (k + size x b)
    have h2 := size_le x b
    simp only [total, List.length_cons]
    omega
theorem total_split : ∀ (l : List It) (bs : List Bool) (k i j : Nat), bs.length = l.length → i ≤ j → j ≤ l.length → total (l.take j) (bs.take j) k = total ((l.take j).drop i) ((bs.take j).drop i) (total (l.take i) (bs.take i) k)
  | l, bs, k, 0, j, _, _, _ => by simp [total]
  | [], _, k, i + 1, j, _, _, h => by simp at h; omega
  | x :: l, [], _, _, _, h, _, _ => by simp at h
  | x :: l, b :: bs, k, i + 1, j + 1, h, hij, hj => by
    simp only [List.take_succ_cons, List.drop_succ_cons, total]
    exact total_split l bs _ i j (by simpa using h) (by omega) (by simpa using hj)
  | x :: l, b :: bs, k, i + 1, 0, h, hij, hj => by omega
theorem total_add : ∀ (l : List It) (bs : List Bool) (k d : Nat), total l bs (k + d) = total l bs k + d
  | [], bs, k, d => by simp [total]
  | x :: l, [], k, d => by simp [total]
  | x :: l, b :: bs, k, d => by
    simp only [total]
    rw [show k + d + size x b = k + size x b + d by omega]
    exact total_add l bs _ d
end As
end Go.Proofs.Ytdmfogmgjmdaeaa
namespace Go.Proofs.Ytdmfogmgjmdaeaa
open Go.RowKit
set_option maxRecDepth 100000
set_option linter.unusedVariables false
set_option linter.unusedSimpArgs false
namespace As
theorem find_some (k : Int) : ∀ (l : List It) (t : Nat), find k l = some t → ∃ y, l[t]? = some y ∧ isLabel y k = true
  | [], t, h => by simp [find] at h
  | x :: l, t, h => by
    unfold find at h
    split at h
    · rename_i hx
      injection h with h
      subst h
      exact ⟨x, rfl, hx⟩
    · cases hf : find k l with
      | none => rw [hf] at h; simp at h
      | some u =>
        rw [hf] at h
        simp at h
        subst h
        obtain ⟨y, h1, h2⟩ := find_some k l u hf
        exact ⟨y, by simpa using h1, h2⟩
theorem find_lt {k : Int} {l : List It} {t : Nat} (h : find k l = some t) : t < l.length := by
  obtain ⟨y, h1, _⟩ := find_some k l t h
  exact (List.getElem?_eq_some_iff.1 h1).1
def pl (l : List It) (bs : List Bool) (i : Nat) : Nat := total (l.take i) (bs.take i) 0
theorem far_eq {l : List It} {bs : List Bool} {x : It} {t : Nat} (h : bs.length = l.length) (hf : find x.label l = some t) (p : Nat) : far l (places l bs 0) x p = (pl l bs t : Int) - p := by
  unfold far
  rw [hf, Option.bind_some, places_get l bs 0 t h (find_lt hf)]
  rfl
theorem pl_diff {l : List It} {bs : List Bool} {i j : Nat} (h : bs.length = l.length) (hij : i ≤ j) (hj : j ≤ l.length) : pl l bs j = pl l bs i + total ((l.take j).drop i) ((bs.take j).drop i) 0 := by
  unfold pl
  rw [total_split l bs 0 i j h hij hj]
  have := total_add ((l.take j).drop i) ((bs.take j).drop i) 0 (total (l.take i) (bs.take i) 0)
  rw [Nat.zero_add] at this
  omega
def Far (z : Int) : Prop := z < -512 ∨ 511 < z
theorem grow_get (all : List It) (ps : List Nat) : ∀ (l : List It) (bs : List Bool) (qs : List Nat) (i : Nat) (x : It) (b : Bool) (q : Nat), l[i]? = some x → bs[i]? = some b → qs[i]? = some q → (grow all ps l bs qs)[i]? = some (stretch all ps x b q)
  | x :: l, b :: bs, q :: qs, 0, _, _, _, h1, h2, h3 => by
    simp only [List.getElem?_cons_zero, Option.some.injEq] at h1 h2 h3
    subst h1 h2 h3
    simp [grow]
  | x :: l, b :: bs, q :: qs, i + 1, _, _, _, h1, h2, h3 => by
    simp only [List.getElem?_cons_succ, grow] at h1 h2 h3 ⊢
    exact grow_get all ps l bs qs i _ _ _ h1 h2 h3
  | [], _, _, _, _, _, _, h1, _, _ => by simp at h1
  | _ :: _, [], _, _, _, _, _, _, h2, _ => by simp at h2
  | _ :: _, _ :: _, [], _, _, _, _, _, _, h3 => by simp at h3
def Out (l : List It) (bs : List Bool) : Prop := ∀ (i : Nat) (x : It), l[i]? = some x → bs[i]? = some true → x.kind = 2 ∧ ∀ t, find x.label l = some t → Far ((pl l bs t : Int) - pl l bs i)
end As
end Go.Proofs.Ytdmfogmgjmdaeaa
namespace Go.Proofs.Ytdmfogmgjmdaeaa
open Go.RowKit
set_option maxRecDepth 100000
set_option linter.unusedVariables false
set_option linter.unusedSimpArgs false
namespace As
theorem find_none (k : Int) : ∀ (l : List It), find k l = none ↔ ∀ y ∈ l, isLabel y k = false
  | [] => by simp [find]
  | x :: l => by
    unfold find
    split
    · rename_i h; simp [h]
    · rename_i h
      simp only [Option.map_eq_none_iff, find_none k l, List.mem_cons, forall_eq_or_imp]
      simp [h]
theorem errA_zero : ∀ (l pre : List It), errA pre l = 0 → (∀ x ∈ l, may x = true) ∧ ∀ (i : Nat) (x : It), l[i]? = some x → x.kind = 1 → find x.label (pre ++ l.take i) = none
  | [], pre, _ => ⟨by simp, by simp⟩
  | y :: l, pre, h => by
    unfold errA at h
    by_cases h1 : may y = false
    · rw [if_pos h1] at h; simp at h
    · rw [if_neg h1] at h
      by_cases h2 : y.kind = 1 ∧ (find y.label pre).isSome = true
      · rw [if_pos h2] at h; simp at h
      · rw [if_neg h2] at h
        obtain ⟨g1, g2⟩ := errA_zero l (pre ++ [y]) h
        refine ⟨fun x hx => ?_, fun i x hx hk => ?_⟩
        · rcases List.mem_cons.1 hx with rfl | hx
          · simpa using h1
          · exact g1 x hx
        · cases i with
          | zero =>
            simp at hx
            subst hx
            simp only [List.take_zero, List.append_nil]
            cases hf : find y.label pre with
            | none => rfl
            | some t => exact absurd ⟨hk, by rw [hf]; rfl⟩ h2
          | succ i =>
            have := g2 i x (by simpa using hx) hk
            simpa using this
theorem errN_zero (all : List It) : ∀ (l : List It), errN all l = 0 → ∀ x ∈ l, names x = true → ∃ t, find x.label all = some t
  | [], _ => by simp
  | y :: l, h => by
    unfold errN at h
    by_cases h1 : names y = true ∧ find y.label all = none
    · rw [if_pos h1] at h; simp at h
    · rw [if_neg h1] at h
      intro x hx hn
      rcases List.mem_cons.1 hx with rfl | hx
      · cases hf : find x.label all with
        | none => exact absurd ⟨hn, hf⟩ h1
        | some t => exact ⟨t, rfl⟩
      · exact errN_zero all l h x hx hn
structure Good (l : List It) : Prop where
  len : l.length ≤ 65536
  may : ∀ x ∈ l, may x = true
  once : ∀ (i j : Nat) (x y : It), l[i]? = some x → l[j]? = some y → x.kind = 1 → y.kind = 1 → x.label = y.label → i = j
  has : ∀ x ∈ l, names x = true → ∃ t, find x.label l = some t
theorem good_of {l : List It} (h : err l = 0) : Good l := by
  unfold err at h
  by_cases h1 : 65536 < l.length
  · rw [if_pos h1] at h; simp at h
  · rw [if_neg h1] at h
    by_cases h2 : errA [] l = 0
    · simp only [h2, ne_eq, not_true_eq_false, if_false] at h
      obtain ⟨g1, g2⟩ := errA_zero l [] h2
      refine ⟨by omega, g1, fun i j x y hx hy hkx hky hl => ?_, errN_zero l l h⟩
      have key : ∀ (i j : Nat) (x y : It), l[i]? = some x → l[j]? = some y → x.kind = 1 → y.kind = 1 → x.label = y.label → ¬ i < j := by
        intro i j x y hx hy hkx hky hl hij
        have h3 := g2 j y hy hky
        rw [List.nil_append, find_none] at h3
        have hm : x ∈ l.take j := by
          refine List.mem_iff_getElem?.2 ⟨i, ?_⟩
          rw [List.getElem?_take, if_pos hij]
          exact hx
        have := h3 x hm
        simp [isLabel, hkx, hl] at this
      have a := key i j x y hx hy hkx hky hl
      have b := key j i y x hy hx hky hkx hl.symm
      omega
    · rw [if_pos h2] at h; exact absurd h h2
theorem encOk_not_bad {x : It} (h : encOk x = true) : ¬ Rs.Bad x.op x.a x.b x.c x.n := by
  have h1 := of_decide_eq_true h
  intro hb
  rw [show Rs.encE _ _ _ _ _ = 200 from if_pos hb] at h1
  exact absurd h1 (by decide)
theorem pl_le {l : List It} (bs : List Bool) {i : Nat} (h : l.length ≤ 65536) : pl l bs i ≤ 262144 := by
  have := (total_le (l.take i) (bs.take i) 0).2
  have h2 : (l.take i).length ≤ l.length := by simp; omega
  unfold pl
  omega
theorem may_2 {x : It} (h : may x = true) (hk : x.kind = 2) : ¬ Rs.Bad x.op x.a x.b x.c 0 ∧ 24 ≤ x.op ∧ x.op ≤ 27 ∧ x.n = 0 ∧ x.num = 0 := by
  unfold may at h
  rw [hk] at h
  simp at h
  obtain ⟨⟨⟨⟨h1, h2⟩, h3⟩, h4⟩, h5⟩ := h
  have := encOk_not_bad h1
  rw [h4] at this
  exact ⟨this, h2, h3, h4, h5⟩
theorem may_3 {x : It} (h : may x = true) (hk : x.kind = 3) : ¬ Rs.Bad x.op x.a x.b x.c 0 ∧ x.op = 28 ∧ x.n = 0 ∧ x.num = 0 := by
  unfold may at h
  rw [hk] at h
  simp at h
  obtain ⟨⟨⟨h1, h2⟩, h3⟩, h4⟩ := h
  have := encOk_not_bad h1
  rw [h3] at this
  exact ⟨this, h2, h3, h4⟩
theorem form_45 {op : Int} (h1 : 24 ≤ op) (h2 : op ≤ 28) : Rs.form op = 4 ∨ Rs.form op = 5 := by
  unfold Rs.form
  rw [if_neg (by omega), if_neg (by omega), if_neg (by omega), if_neg (by omega)]
  by_cases h : 24 ≤ op ∧ op ≤ 27
  · rw [if_pos h]; exact .inl rfl
  · rw [if_neg h, if_pos (by omega)]; exact .inr rfl
theorem c_zero {op a b c n : Int} (h : ¬ Rs.Bad op a b c n) (h1 : 24 ≤ op) (h2 : op ≤ 28) : c = 0 ∧ (op = 28 → b = 0) := by
  unfold Rs.Bad at h
  simp only [not_or, not_and, Int.not_lt] at h
  have hf := form_45 h1 h2
  refine ⟨?_, fun h28 => ?_⟩
  · have := h.2.2.2.2.2.1 (by omega)
    exact Decidable.byContradiction this
  · have : Rs.form op = 5 := by rw [h28]; rfl
    exact Decidable.byContradiction (h.2.2.2.2.1 (.inr (.inr this)))
end As
end Go.Proofs.Ytdmfogmgjmdaeaa
namespace Go.Proofs.Ytdmfogmgjmdaeaa
open Go.RowKit
set_option maxRecDepth 100000
set_option linter.unusedSimpArgs false
set_option linter.unusedVariables false

def iv (op a b c n : Int) : Value := .agg #[.int .i64 op, .int .i64 a, .int .i64 b, .int .i64 c, .int .i64 n]

end Go.Proofs.Ytdmfogmgjmdaeaa
namespace Go.Proofs.Ytdmfogmgjmdaeaa
open Go.RowKit
set_option maxRecDepth 100000
set_option linter.unusedVariables false
set_option linter.unusedSimpArgs false
namespace As
theorem write_app (all : List It) (ps : List Nat) : ∀ (l m : List It) (bs cs : List Bool) (qs rs : List Nat), bs.length = l.length → qs.length = l.length → write all ps (l ++ m) (bs ++ cs) (qs ++ rs) = write all ps l bs qs ++ write all ps m cs rs
  | [], m, bs, cs, qs, rs, h1, h2 => by
    have e1 : bs = [] := List.eq_nil_of_length_eq_zero (by simpa using h1)
    have e2 : qs = [] := List.eq_nil_of_length_eq_zero (by simpa using h2)
    subst e1 e2
    simp [write]
  | x :: l, m, b :: bs, cs, q :: qs, rs, h1, h2 => by
    simp only [List.cons_append, write, write_app all ps l m bs cs qs rs (by simpa using h1) (by simpa using h2), List.append_assoc]
  | x :: l, m, [], _, _, _, h1, _ => by simp at h1
  | x :: l, m, _ :: _, _, [], _, _, h2 => by simp at h2
end As
end Go.Proofs.Ytdmfogmgjmdaeaa
namespace Go.Proofs.Ytdmfogmgjmdaeaa
open Go.RowKit
set_option maxRecDepth 100000
set_option linter.unusedVariables false
set_option linter.unusedSimpArgs false
namespace As
theorem drop_cons {l : List It} {k : Nat} {x : It} (hx : l[k]? = some x) : l.drop k = x :: l.drop (k + 1) ∧ l.take k ++ [x] = l.take (k + 1) := by
  have hk : k < l.length := (List.getElem?_eq_some_iff.1 hx).1
  have hb : l[k] = x := by rw [List.getElem?_eq_getElem hk] at hx; simpa using hx
  refine ⟨by rw [List.drop_eq_getElem_cons hk, hb], by rw [List.take_add_one, hx]; rfl⟩
theorem errA_step {l : List It} {k : Nat} {x : It} (hx : l[k]? = some x) : errA (l.take k) (l.drop k) = if may x = false then 210 else if x.kind = 1 ∧ (find x.label (l.take k)).isSome = true then 211 else errA (l.take (k + 1)) (l.drop (k + 1)) := by
  rw [(drop_cons hx).1, errA, (drop_cons hx).2]
theorem errN_step {all l : List It} {k : Nat} {x : It} (hx : l[k]? = some x) : errN all (l.drop k) = if names x = true ∧ find x.label all = none then 212 else errN all (l.drop (k + 1)) := by
  rw [(drop_cons hx).1, errN]
theorem err_A {l : List It} {z : Int} (h : l.length ≤ 65536) (he : errA [] l = z) (hz : z ≠ 0) : err l = z := by
  unfold err
  rw [if_neg (by omega), he, if_pos hz]
theorem err_N {l : List It} {z : Int} (h : l.length ≤ 65536) (he : errA [] l = 0) (hn : errN l l = z) : err l = z := by
  unfold err
  rw [if_neg (by omega), he, if_neg (by simp), hn]
def cod (l : List It) (k : Nat) : List Int := write l (places0 l) (l.take k) ((longs l).take k) ((places0 l).take k)
theorem places0_get {l : List It} {k : Nat} (h : k < l.length) : (places0 l)[k]? = some (pl l (longs l) k) := places_get l (longs l) 0 k (longs_fix l).2 h
theorem places0_length (l : List It) : (places0 l).length = l.length := places_length l (longs l) 0 (longs_fix l).2
theorem cod_succ {l : List It} {k : Nat} {x : It} {b : Bool} (hx : l[k]? = some x) (hb : (longs l)[k]? = some b) : cod l (k + 1) = cod l k ++ words x b (pl l (longs l) k) (far l (places0 l) x (pl l (longs l) k)) := by
  have hk : k < l.length := (List.getElem?_eq_some_iff.1 hx).1
  have h1 := (longs_fix l).2
  have h2 := places0_length l
  unfold cod
  rw [List.take_add_one, List.take_add_one, List.take_add_one, hx, hb, places0_get hk]
  simp only [Option.toList_some]
  rw [write_app _ _ _ _ _ _ _ _ (by simp; omega) (by simp; omega)]
  simp [write]
theorem cod_full (l : List It) : cod l l.length = code l := by
  have h1 := (longs_fix l).2
  have h2 := places0_length l
  unfold cod code
  rw [List.take_length, List.take_of_length_le (by omega), List.take_of_length_le (by omega)]
theorem write_len (all : List It) (ps : List Nat) : ∀ (l : List It) (bs : List Bool) (qs : List Nat), (∀ y ∈ l, may y = true) → (write all ps l bs qs).length ≤ 4 * l.length
  | [], _, _, _ => by simp [write]
  | x :: l, [], _, _ => by simp [write]
  | x :: l, b :: bs, [], _ => by simp [write]
  | x :: l, b :: bs, q :: qs, h => by
    have h1 := write_len all ps l bs qs (fun y hy => h y (by simp [hy]))
    have h2 := words_length (h x (by simp)) b q (far all ps x q)
    have h3 := size_le x b
    simp only [write, List.length_append, List.length_cons]
    omega
theorem cod_len {l : List It} (hm : ∀ y ∈ l, may y = true) (k : Nat) (h : l.length ≤ 65536) : (cod l k).length ≤ 262144 := by
  have := write_len l (places0 l) (l.take k) ((longs l).take k) ((places0 l).take k) (fun y hy => hm y (List.mem_of_mem_take hy))
  unfold cod
  simp at this
  omega
end As
end Go.Proofs.Ytdmfogmgjmdaeaa
