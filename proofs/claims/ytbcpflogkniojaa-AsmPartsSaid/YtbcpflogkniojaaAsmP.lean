/- Assembly, plainly. -/
import Derived.Test.YtbcpflogkniojaaRiscEncP
namespace Go.Proofs.Ytbcpflogkniojaa
open Go.RowKit
set_option linter.unusedVariables false
set_option linter.unusedSimpArgs false
namespace As
/-- An item. -/
structure It where
  kind : Int
  op : Int
  a : Int
  b : Int
  c : Int
  n : Int
  label : Int
  num : Int
deriving DecidableEq
/-- Its cells. -/
def It.cells (x : It) : List Value := [.int .i64 x.kind, .int .i64 x.op, .int .i64 x.a, .int .i64 x.b, .int .i64 x.c, .int .i64 x.n, .int .i64 x.label, .int .i64 x.num]
def It.val (x : It) : Value := .agg x.cells.toArray
def flat (l : List It) : List Value := l.flatMap It.cells
def encOk (x : It) : Bool := decide (Rs.encE x.op x.a x.b x.c x.n = 0)
/-- May an item be? -/
def may (x : It) : Bool :=
  if x.kind = 0 then encOk x && decide (x.label = 0) && decide (x.num = 0)
  else if x.kind = 1 then decide (x.op = 0 ∧ x.a = 0 ∧ x.b = 0 ∧ x.c = 0 ∧ x.n = 0) && decide (x.num = 0)
  else if x.kind = 2 then encOk x && decide (24 ≤ x.op) && decide (x.op ≤ 27) && decide (x.n = 0) && decide (x.num = 0)
  else if x.kind = 3 then encOk x && decide (x.op = 28) && decide (x.n = 0) && decide (x.num = 0)
  else if x.kind = 4 then encOk x && decide (x.op = 20) && decide (x.n = 0) && decide (x.label = 0)
  else if x.kind = 5 then encOk x && decide (x.op = 20) && decide (x.n = 0) && decide (x.num = 0)
  else false
def isLabel (x : It) (k : Int) : Bool := decide (x.kind = 1) && decide (x.label = k)
/-- The place of a label among items. -/
def find (k : Int) : List It → Option Nat
  | [] => none
  | x :: l => if isLabel x k = true then some 0 else (find k l).map (· + 1)
def names (x : It) : Bool := decide (x.kind = 2) || decide (x.kind = 3) || decide (x.kind = 5)
/-- What is wrong first: the form, a label twice. -/
def errA (pre : List It) : List It → Int
  | [] => 0
  | x :: l => if may x = false then 210 else if x.kind = 1 ∧ (find x.label pre).isSome = true then 211 else errA (pre ++ [x]) l
/-- A label that is none. -/
def errN (all : List It) : List It → Int
  | [] => 0
  | x :: l => if names x = true ∧ find x.label all = none then 212 else errN all l
def err (l : List It) : Int := if 65536 < l.length then 213 else if errA [] l ≠ 0 then errA [] l else errN l l
def pieces (n : Int) : Nat :=
  if -32768 ≤ n ∧ n ≤ 32767 then 1 else if -2147483648 ≤ n ∧ n ≤ 2147483647 then 2 else if -140737488355328 ≤ n ∧ n ≤ 140737488355327 then 3 else 4
def size (x : It) (long : Bool) : Nat :=
  if x.kind = 1 then 0 else if x.kind = 2 then (if long = true then 2 else 1) else if x.kind = 4 then pieces x.num else if x.kind = 5 then 2 else 1
/-- Where the items stand. -/
def places : List It → List Bool → Nat → List Nat
  | x :: l, b :: bs, k => k :: places l bs (k + size x b)
  | _, _, _ => []
/-- Where the last one ends. -/
def total : List It → List Bool → Nat → Nat
  | x :: l, b :: bs, k => total l bs (k + size x b)
  | _, _, k => k
/-- How far a label is. -/
def far (all : List It) (ps : List Nat) (x : It) (p : Nat) : Int := (((find x.label all).bind fun i => ps[i]?).getD 0 : Nat) - (p : Int)
def stretch (all : List It) (ps : List Nat) (x : It) (b : Bool) (p : Nat) : Bool := b || (decide (x.kind = 2) && (decide (far all ps x p < -512) || decide (511 < far all ps x p)))
def grow (all : List It) (ps : List Nat) : List It → List Bool → List Nat → List Bool
  | x :: l, b :: bs, p :: qs => stretch all ps x b p :: grow all ps l bs qs
  | _, _, _ => []
/-- The layout that fits: so many rounds at most. -/
def layout (l : List It) : Nat → List Bool → List Bool
  | 0, bs => bs
  | k + 1, bs => if grow l (places l bs 0) l bs (places l bs 0) = bs then bs else layout l k (grow l (places l bs 0) l bs (places l bs 0))
def longs (l : List It) : List Bool := layout l (l.length + 1) (List.replicate l.length false)
/-- Pieces of a number, from piece k - 1 downwards. -/
def tailP (r n : Int) : Nat → List Int
  | 0 => []
  | k + 1 => Rs.encW 21 r 0 0 (n / 2 ^ (16 * k) % 65536) :: tailP r n k
def number (r n : Int) (k : Nat) : List Int := Rs.encW 20 r 0 0 ((n / 2 ^ (16 * (k - 1)) + 32768) % 65536 - 32768) :: tailP r n (k - 1)
def opposite (op : Int) : Int := if op = 24 then 25 else if op = 25 then 24 else if op = 26 then 27 else 26
/-- The words of an item that stands at p, its label f away. -/
def words (x : It) (long : Bool) (p : Nat) (f : Int) : List Int :=
  if x.kind = 0 then [Rs.encW x.op x.a x.b x.c x.n]
  else if x.kind = 2 then (if long = true then [Rs.encW (opposite x.op) x.a x.b 0 2, Rs.encW 28 0 0 0 (f - 1)] else [Rs.encW x.op x.a x.b x.c f])
  else if x.kind = 3 then [Rs.encW x.op x.a x.b x.c f]
  else if x.kind = 4 then number x.a x.num (pieces x.num)
  else if x.kind = 5 then number x.a (f + p) 2
  else []
def write (all : List It) (ps : List Nat) : List It → List Bool → List Nat → List Int
  | x :: l, b :: bs, p :: qs => words x b p (far all ps x p) ++ write all ps l bs qs
  | _, _, _ => []
def places0 (l : List It) : List Nat := places l (longs l) 0
def code (l : List It) : List Int := write l (places0 l) l (longs l) (places0 l)

theorem grow_length (all : List It) (ps : List Nat) : ∀ (l : List It) (bs : List Bool) (qs : List Nat), bs.length = l.length → qs.length = l.length → (grow all ps l bs qs).length = l.length
  | [], _, _, _, _ => by simp [grow]
  | x :: l, b :: bs, q :: qs, h1, h2 => by simp [grow, grow_length all ps l bs qs (by simpa using h1) (by simpa using h2)]
  | x :: l, [], _, h1, _ => by simp at h1
  | x :: l, _ :: _, [], _, h2 => by simp at h2
theorem places_length : ∀ (l : List It) (bs : List Bool) (k : Nat), bs.length = l.length → (places l bs k).length = l.length
  | [], _, _, _ => by simp [places]
  | x :: l, b :: bs, k, h => by simp [places, places_length l bs _ (by simpa using h)]
  | x :: l, [], _, h => by simp at h
/-- Growing never makes short. -/
theorem grow_mono (all : List It) (ps : List Nat) : ∀ (l : List It) (bs : List Bool) (qs : List Nat), bs.length = l.length → qs.length = l.length → ∀ i : Nat, bs[i]? = some true → (grow all ps l bs qs)[i]? = some true
  | [], bs, _, h, _, i, hi => by have : bs = [] := List.eq_nil_of_length_eq_zero (by simpa using h); rw [this] at hi; simp at hi
  | x :: l, b :: bs, q :: qs, h1, h2, 0, hi => by simp at hi; simp [grow, stretch, hi]
  | x :: l, b :: bs, q :: qs, h1, h2, i + 1, hi => by
    simp only [grow, List.getElem?_cons_succ] at hi ⊢
    exact grow_mono all ps l bs qs (by simpa using h1) (by simpa using h2) i hi
  | x :: l, [], _, h1, _, _, _ => by simp at h1
  | x :: l, _ :: _, [], _, h2, _, _ => by simp at h2
theorem grow_count (all : List It) (ps : List Nat) : ∀ (l : List It) (bs : List Bool) (qs : List Nat), bs.length = l.length → qs.length = l.length → grow all ps l bs qs ≠ bs → bs.count true < (grow all ps l bs qs).count true
  | [], bs, _, h, _, hne => by have : bs = [] := List.eq_nil_of_length_eq_zero (by simpa using h); subst this; simp [grow] at hne
  | x :: l, b :: bs, q :: qs, h1, h2, hne => by
    have hle : ∀ (l : List It) (bs : List Bool) (qs : List Nat), bs.length = l.length → qs.length = l.length → bs.count true ≤ (grow all ps l bs qs).count true := by
      intro l
      induction l with
      | nil => intro bs qs h _; have : bs = [] := List.eq_nil_of_length_eq_zero (by simpa using h); subst this; simp
      | cons y l ih =>
        intro bs qs h1 h2
        match bs, qs, h1, h2 with
        | b :: bs, q :: qs, h1, h2 =>
          have := ih bs qs (by simpa using h1) (by simpa using h2)
          simp only [grow, List.count_cons]
          have hb : (if (b == true) = true then 1 else 0) ≤ (if (stretch all ps y b q == true) = true then 1 else 0) := by
            cases b <;> simp [stretch]
          omega
    simp only [grow] at hne ⊢
    simp only [List.count_cons]
    have hl := hle l bs qs (by simpa using h1) (by simpa using h2)
    by_cases hx : stretch all ps x b q = b
    · rw [hx] at hne ⊢
      have := grow_count all ps l bs qs (by simpa using h1) (by simpa using h2) (fun e => hne (by rw [e]))
      omega
    · have hbf : b = false := by
        cases b with
        | false => rfl
        | true => exact absurd (by simp [stretch]) hx
      subst hbf
      have hs : stretch all ps x false q = true := by
        cases h : stretch all ps x false q with
        | true => rfl
        | false => exact absurd h hx
      rw [hs]
      simp
      omega
  | x :: l, [], _, h1, _, _ => by simp at h1
  | x :: l, _ :: _, [], _, h2, _ => by simp at h2
/-- So many rounds are enough. -/
theorem layout_fix (l : List It) : ∀ (k : Nat) (bs : List Bool), bs.length = l.length → l.length < k + bs.count true → grow l (places l (layout l k bs) 0) l (layout l k bs) (places l (layout l k bs) 0) = layout l k bs ∧ (layout l k bs).length = l.length
  | 0, bs, h, hk => by
    have := List.count_le_length (a := true) (l := bs)
    omega
  | k + 1, bs, h, hk => by
    unfold layout
    split
    · rename_i he
      exact ⟨he, h⟩
    · rename_i he
      have hp := places_length l bs 0 h
      have hc := grow_count l (places l bs 0) l bs (places l bs 0) h hp he
      exact layout_fix l k _ (grow_length _ _ _ _ _ h hp) (by omega)
theorem longs_fix (l : List It) : grow l (places0 l) l (longs l) (places0 l) = longs l ∧ (longs l).length = l.length := layout_fix l _ _ (by simp) (by omega)
end As
end Go.Proofs.Ytbcpflogkniojaa
