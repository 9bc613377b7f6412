/- Encode. -/
import Derived.Test.YtaldcgfhlflcpaaAJab
import Derived.Laws.BitsAllLaws
set_option linter.unusedVariables false
set_option linter.unusedSimpArgs false
set_option linter.unnecessarySimpa false
namespace Go.Proofs.Ytaldcgfhlflcpaa
open Go.RowKit
set_option maxRecDepth 100000
set_option linter.unusedSimpArgs false
set_option linter.unusedVariables false
namespace Rs
def Bad (op a b c n : Int) : Prop :=
  form op = 7 ∨ isReg a = false ∨ isReg b = false ∨ isReg c = false ∨ ((form op = 0 ∨ form op = 3 ∨ form op = 5) ∧ b ≠ 0) ∨ (form op ≠ 1 ∧ c ≠ 0) ∨ n < least op ∨ most op < n
instance (op a b c n : Int) : Decidable (Bad op a b c n) := by unfold Bad; exact inferInstance
def nmod (op : Int) : Int := if form op = 2 ∨ form op = 3 then 65536 else if form op = 4 then 1024 else if form op = 5 then 2097152 else 1
def enc (op a b c n : Int) : Int := op * 67108864 + a * 2097152 + b * 65536 + c * 2048 + n % nmod op
def encW (op a b c n : Int) : Int := if Bad op a b c n then 0 else enc op a b c n
def encE (op a b c n : Int) : Int := if Bad op a b c n then 200 else 0

theorem form_range (op : Int) (h : form op ≠ 7) : 0 ≤ op ∧ op ≤ 31 := by
  unfold form at h
  repeat' split at h
  all_goals first | omega | exact absurd rfl h
theorem form_8 (op : Int) : form op = 0 ∨ form op = 1 ∨ form op = 2 ∨ form op = 3 ∨ form op = 4 ∨ form op = 5 ∨ form op = 6 ∨ form op = 7 := by
  unfold form
  repeat' split
  all_goals simp
theorem isReg_range {n : Int} (h : isReg n = true) : 0 ≤ n ∧ n ≤ 31 := of_decide_eq_true h

theorem ret2_u32 {a b : Int} {v : Value} (h : a = b) : Ending.returned (.tuple #[.int .u32 a, v]) = .returned (.tuple #[.int .u32 b, v]) := by rw [h]
end Rs
end Go.Proofs.Ytaldcgfhlflcpaa
namespace Go.Proofs.Ytaldcgfhlflcpaa
open Go.RowKit
set_option maxRecDepth 100000
set_option linter.unusedSimpArgs false
set_option linter.unusedVariables false

def iv (op a b c n : Int) : Value := .agg #[.int .i64 op, .int .i64 a, .int .i64 b, .int .i64 c, .int .i64 n]

end Go.Proofs.Ytaldcgfhlflcpaa
namespace Go.Proofs.Ytaldcgfhlflcpaa
open Go.RowKit
set_option maxRecDepth 100000
set_option linter.unusedVariables false
set_option linter.unusedSimpArgs false
namespace As
structure It where
  kind : Int
  op : Int
  a : Int
  b : Int
  c : Int
  n : Int
  label : Int
  num : Int
deriving DecidableEq
def It.cells (x : It) : List Value := [.int .i64 x.kind, .int .i64 x.op, .int .i64 x.a, .int .i64 x.b, .int .i64 x.c, .int .i64 x.n, .int .i64 x.label, .int .i64 x.num]
def It.val (x : It) : Value := .agg x.cells.toArray
def flat (l : List It) : List Value := l.flatMap It.cells
def encOk (x : It) : Bool := decide (Rs.encE x.op x.a x.b x.c x.n = 0)
def may (x : It) : Bool :=
  if x.kind = 0 then encOk x && decide (x.label = 0) && decide (x.num = 0)
  else if x.kind = 1 then decide (x.op = 0 ∧ x.a = 0 ∧ x.b = 0 ∧ x.c = 0 ∧ x.n = 0) && decide (x.num = 0)
  else if x.kind = 2 then encOk x && decide (24 ≤ x.op) && decide (x.op ≤ 27) && decide (x.n = 0) && decide (x.num = 0)
  else if x.kind = 3 then encOk x && decide (x.op = 28) && decide (x.n = 0) && decide (x.num = 0)
  else if x.kind = 4 then encOk x && decide (x.op = 20) && decide (x.n = 0) && decide (x.label = 0)
  else if x.kind = 5 then encOk x && decide (x.op = 20) && decide (x.n = 0) && decide (x.num = 0)
  else false
def isLabel (x : It) (k : Int) : Bool := decide (x.kind = 1) && decide (x.label = k)
def find (k : Int) : List It → Option Nat
  | [] => none
  | x :: l => if isLabel x k = true then some 0 else (find k l).map (· + 1)
def names (x : It) : Bool := decide (x.kind = 2) || decide (x.kind = 3) || decide (x.kind = 5)
def errA (pre : List It) : List It → Int
  | [] => 0
  | x :: l => if may x = false then 210 else if x.kind = 1 ∧ (find x.label pre).isSome = true then 211 else errA (pre ++ [x]) l
def errN (all : List It) : List It → Int
  | [] => 0
  | x :: l => if names x = true ∧ find x.label all = none then 212 else errN all l
def err (l : List It) : Int := if 65536 < l.length then 213 else if errA [] l ≠ 0 then errA [] l else errN l l
def pieces (n : Int) : Nat :=
  if -32768 ≤ n ∧ n ≤ 32767 then 1 else if -2147483648 ≤ n ∧ n ≤ 2147483647 then 2 else if -140737488355328 ≤ n ∧ n ≤ 140737488355327 then 3 else 4
def size (x : It) (long : Bool) : Nat :=
  if x.kind = 1 then 0 else if x.kind = 2 then (if long = true then 2 else 1) else if x.kind = 4 then pieces x.num else if x.kind = 5 then 2 else 1
def places : List It → List Bool → Nat → List Nat
  | x :: l, b :: bs, k => k :: places l bs (k + size x b)
  | _, _, _ => []
def total : List It → List Bool → Nat → Nat
  | x :: l, b :: bs, k => total l bs (k + size x b)
  | _, _, k => k
def far (all : List It) (ps : List Nat) (x : It) (p : Nat) : Int := (((find x.label all).bind fun i => ps[i]?).getD 0 : Nat) - (p : Int)
def stretch (all : List It) (ps : List Nat) (x : It) (b : Bool) (p : Nat) : Bool := b || (decide (x.kind = 2) && (decide (far all ps x p < -512) || decide (511 < far all ps x p)))
def grow (all : List It) (ps : List Nat) : List It → List Bool → List Nat → List Bool
  | x :: l, b :: bs, p :: qs => stretch all ps x b p :: grow all ps l bs qs
  | _, _, _ => []
def layout (l : List It) : Nat → List Bool → List Bool
  | 0, bs => bs
  | k + 1, bs => if grow l (places l bs 0) l bs (places l bs 0) = bs then bs else layout l k (grow l (places l bs 0) l bs (places l bs 0))
def longs (l : List It) : List Bool := layout l (l.length + 1) (List.replicate l.length false)
def tailP (r n : Int) : Nat → List Int
  | 0 => []
  | k + 1 => Rs.encW 21 r 0 0 (n / 2 ^ (16 * k) % 65536) :: tailP r n k
def number (r n : Int) (k : Nat) : List Int := Rs.encW 20 r 0 0 ((n / 2 ^ (16 * (k - 1)) + 32768) % 65536 - 32768) :: tailP r n (k - 1)
def opposite (op : Int) : Int := if op = 24 then 25 else if op = 25 then 24 else if op = 26 then 27 else 26
def words (x : It) (long : Bool) (p : Nat) (f : Int) : List Int :=
  if x.kind = 0 then [Rs.encW x.op x.a x.b x.c x.n]
  else if x.kind = 2 then (if long = true then [Rs.encW (opposite x.op) x.a x.b 0 2, Rs.encW 28 0 0 0 (f - 1)] else [Rs.encW x.op x.a x.b x.c f])
  else if x.kind = 3 then [Rs.encW x.op x.a x.b x.c f]
  else if x.kind = 4 then number x.a x.num (pieces x.num)
  else if x.kind = 5 then number x.a (f + p) 2
  else []
def write (all : List It) (ps : List Nat) : List It → List Bool → List Nat → List Int
  | x :: l, b :: bs, p :: qs => words x b p (far all ps x p) ++ write all ps l bs qs
  | _, _, _ => []
def places0 (l : List It) : List Nat := places l (longs l) 0
def code (l : List It) : List Int := write l (places0 l) l (longs l) (places0 l)

theorem grow_length (all : List It) (ps : List Nat) : ∀ (l : List It) (bs : List Bool) (qs : List Nat), bs.length = l.length → qs.length = l.length → (grow all ps l bs qs).length = l.length
  | [], _, _, _, _ => by simp [grow]
  | x :: l, b :: bs, q :: qs, h1, h2 => by simp [grow, grow_length all ps l bs qs (by simpa using h1) (by simpa using h2)]
  | x :: l, [], _, h1, _ => by simp at h1
  | x :: l, _ :: _, [], _, h2 => by simp at h2
theorem places_length : ∀ (l : List It) (bs : List Bool) (k : Nat), bs.length = l.length → (places l bs k).length = l.length
  | [], _, _, _ => by simp [places]
  | x :: l, b :: bs, k, h => by simp [places, places_length l bs _ (by simpa using h)]
  | x :: l, [], _, h => by simp at h
theorem grow_count (all : List It) (ps : List Nat) : ∀ (l : List It) (bs : List Bool) (qs : List Nat), bs.length = l.length → qs.length = l.length → grow all ps l bs qs ≠ bs → bs.count true < (grow all ps l bs qs).count true
  | [], bs, _, h, _, hne => by have : bs = [] := List.eq_nil_of_length_eq_zero (by simpa using h); subst this; simp [grow] at hne
  | x :: l, b :: bs, q :: qs, h1, h2, hne => by
    have hle : ∀ (l : List It) (bs : List Bool) (qs : List Nat), bs.length = l.length → qs.length = l.length → bs.count true ≤ (grow all ps l bs qs).count true := by
      intro l
      induction l with
      | nil => intro bs qs h _; have : bs = [] := List.eq_nil_of_length_eq_zero (by simpa using h); subst this; simp
      | cons y l ih =>
        intro bs qs h1 h2
        match bs, qs, h1, h2 with
        | b :: bs, q :: qs, h1, h2 =>
          have := ih bs qs (by simpa using h1) (by simpa using h2)
          simp only [grow, List.count_cons]
          have hb : (if (b == true) = true then 1 else 0) ≤ (if (stretch all ps y b q == true) = true then 1 else 0) := by
            cases b <;> simp [stretch]
          omega
    simp only [grow] at hne ⊢
    simp only [List.count_cons]
    have hl := hle l bs qs (by simpa using h1) (by simpa using h2)
    by_cases hx : stretch all ps x b q = b
    · rw [hx] at hne ⊢
      have := grow_count all ps l bs qs (by simpa using h1) (by simpa using h2) (fun e => hne (by rw [e]))
      omega
    · have hbf : b = false := by
        cases b with
        | false => rfl
        | true => exact absurd (by simp [stretch]) hx
      subst hbf
      have hs : stretch all ps x false q = true := by
        cases h : stretch all ps x false q with
        | true => rfl
        | false => exact absurd h hx
      rw [hs]
      simp
      omega
  | x :: l, [], _, h1, _, _ => by simp at h1
  | x :: l, _ :: _, [], _, h2, _ => by simp at h2
theorem layout_fix (l : List It) : ∀ (k : Nat) (bs : List Bool), bs.length = l.length → l.length < k + bs.count true → grow l (places l (layout l k bs) 0) l (layout l k bs) (places l (layout l k bs) 0) = layout l k bs ∧ (layout l k bs).length = l.length
  | 0, bs, h, hk => by
    have := List.count_le_length (a := true) (l := bs)
    omega
  | k + 1, bs, h, hk => by
    unfold layout
    split
    · rename_i he
      exact ⟨he, h⟩
    · rename_i he
      have hp := places_length l bs 0 h
      have hc := grow_count l (places l bs 0) l bs (places l bs 0) h hp he
      exact layout_fix l k _ (grow_length _ _ _ _ _ h hp) (by omega)
theorem longs_fix (l : List It) : grow l (places0 l) l (longs l) (places0 l) = longs l ∧ (longs l).length = l.length := layout_fix l _ _ (by simp) (by omega)
end As
end Go.Proofs.Ytaldcgfhlflcpaa
namespace Go.Proofs.Ytaldcgfhlflcpaa
set_option linter.unusedVariables false
set_option linter.unusedSimpArgs false
namespace Gc
inductive W where
  | raw (z : Int)
  | ref (j : Nat)
deriving DecidableEq
def que (ws : Nat → List W) (roots : List W) (o : List Nat) : List W := roots ++ o.flatMap ws
def ord (ws : Nat → List W) (roots : List W) : Nat → List Nat
  | 0 => []
  | k + 1 => match (que ws roots (ord ws roots k))[k]? with
    | some (.ref j) => if j ∈ ord ws roots k then ord ws roots k else ord ws roots k ++ [j]
    | _ => ord ws roots k
section
variable {ws : Nat → List W} {roots : List W}
theorem que_snoc (o : List Nat) (j : Nat) : que ws roots (o ++ [j]) = que ws roots o ++ ws j := by simp [que]
theorem ord_raw {k : Nat} {z : Int} (h : (que ws roots (ord ws roots k))[k]? = some (.raw z)) : ord ws roots (k + 1) = ord ws roots k := by rw [ord, h]
theorem ord_old {k j : Nat} (h : (que ws roots (ord ws roots k))[k]? = some (.ref j)) (hj : j ∈ ord ws roots k) : ord ws roots (k + 1) = ord ws roots k := by rw [ord, h]; exact if_pos hj
theorem ord_new {k j : Nat} (h : (que ws roots (ord ws roots k))[k]? = some (.ref j)) (hj : j ∉ ord ws roots k) : ord ws roots (k + 1) = ord ws roots k ++ [j] := by rw [ord, h]; exact if_neg hj
theorem ord_step (k : Nat) : ord ws roots (k + 1) = ord ws roots k ∨ ∃ j, j ∉ ord ws roots k ∧ (que ws roots (ord ws roots k))[k]? = some (.ref j) ∧ ord ws roots (k + 1) = ord ws roots k ++ [j] := by
  cases h : (que ws roots (ord ws roots k))[k]? with
  | none => left; rw [ord, h]
  | some w =>
    cases w with
    | raw z => exact .inl (ord_raw h)
    | ref j =>
      by_cases hj : j ∈ ord ws roots k
      · exact .inl (ord_old h hj)
      · exact .inr ⟨j, hj, rfl, ord_new h hj⟩
theorem que_step (k c : Nat) (hc : c < (que ws roots (ord ws roots k)).length) : (que ws roots (ord ws roots (k + 1)))[c]? = (que ws roots (ord ws roots k))[c]? := by
  rcases ord_step (ws := ws) (roots := roots) k with h | ⟨j, -, -, h⟩
  · rw [h]
  · rw [h, que_snoc, List.getElem?_append_left hc]
theorem que_len_step (k : Nat) : (que ws roots (ord ws roots k)).length ≤ (que ws roots (ord ws roots (k + 1))).length := by
  rcases ord_step (ws := ws) (roots := roots) k with h | ⟨j, -, -, h⟩
  · rw [h]; exact Nat.le_refl _
  · rw [h, que_snoc, List.length_append]; omega
theorem ord_sub (k d : Nat) : ∀ j ∈ ord ws roots k, j ∈ ord ws roots (k + d) := by
  induction d with
  | zero => exact fun j h => h
  | succ d ih =>
    intro j h
    have := ih j h
    rw [← Nat.add_assoc]
    rcases ord_step (ws := ws) (roots := roots) (k + d) with e | ⟨i, -, -, e⟩
    · rw [e]; exact this
    · rw [e]; exact List.mem_append_left _ this
theorem ord_nodup : ∀ k, (ord ws roots k).Nodup
  | 0 => List.nodup_nil
  | k + 1 => by
    rcases ord_step (ws := ws) (roots := roots) k with e | ⟨j, hj, -, e⟩
    · rw [e]; exact ord_nodup k
    · rw [e, List.nodup_append]
      refine ⟨ord_nodup k, by simp, fun a ha b hb hab => ?_⟩
      rw [List.mem_singleton] at hb
      exact hj (by rw [← hb, ← hab]; exact ha)
inductive Reach (ws : Nat → List W) (roots : List W) : Nat → Prop
  | root {j : Nat} : W.ref j ∈ roots → Reach ws roots j
  | word {i j : Nat} : Reach ws roots i → W.ref j ∈ ws i → Reach ws roots j
theorem que_reach {o : List Nat} (ho : ∀ j ∈ o, Reach ws roots j) {j : Nat} (h : W.ref j ∈ que ws roots o) : Reach ws roots j := by
  unfold que at h
  rcases List.mem_append.1 h with h | h
  · exact .root h
  · obtain ⟨i, hi, h⟩ := List.mem_flatMap.1 h
    exact .word (ho i hi) h
theorem ord_reach : ∀ k, ∀ j ∈ ord ws roots k, Reach ws roots j
  | 0, j, h => by cases h
  | k + 1, j, h => by
    rcases ord_step (ws := ws) (roots := roots) k with e | ⟨i, -, hi, e⟩
    · rw [e] at h; exact ord_reach k j h
    · rw [e] at h
      rcases List.mem_append.1 h with h | h
      · exact ord_reach k j h
      · rw [List.mem_singleton] at h
        subst h
        exact que_reach (ord_reach k) (List.mem_of_getElem? hi)
theorem ord_done : ∀ k c j, c < k → (que ws roots (ord ws roots k))[c]? = some (.ref j) → j ∈ ord ws roots k
  | 0, c, j, h, _ => by omega
  | k + 1, c, j, h, hc => by
    by_cases hck : c < k
    · by_cases hl : c < (que ws roots (ord ws roots k)).length
      · rw [que_step k c hl] at hc
        exact ord_sub k 1 j (ord_done k c j hck hc)
      · rcases ord_step (ws := ws) (roots := roots) k with e | ⟨i, -, hi, e⟩
        · rw [e] at hc ⊢
          exact ord_done k c j hck hc
        · have := (List.getElem?_eq_some_iff.1 hi).1
          omega
    · have hck' : c = k := by omega
      subst hck'
      rcases ord_step (ws := ws) (roots := roots) c with e | ⟨i, hn, hi, e⟩
      · rw [e] at hc ⊢
        by_cases hj : j ∈ ord ws roots c
        · exact hj
        · have h2 := ord_new hc hj
          rw [e] at h2
          have := congrArg List.length h2
          simp at this
      · have hl := (List.getElem?_eq_some_iff.1 hi).1
        rw [que_step c c hl, hi] at hc
        cases hc
        rw [e]
        exact List.mem_append_right _ (by simp)
theorem ord_all {k : Nat} (hk : (que ws roots (ord ws roots k)).length ≤ k) {j : Nat} (h : Reach ws roots j) : j ∈ ord ws roots k := by
  have key : ∀ {j}, W.ref j ∈ que ws roots (ord ws roots k) → j ∈ ord ws roots k := by
    intro j h
    obtain ⟨c, hc⟩ := List.getElem?_of_mem h
    have := (List.getElem?_eq_some_iff.1 hc).1
    exact ord_done k c j (by omega) hc
  induction h with
  | root h => exact key (List.mem_append_left _ h)
  | word _ h ih => exact key (List.mem_append_right _ (List.mem_flatMap.2 ⟨_, ih, h⟩))
end
def tot (f : Nat → Nat) : List Nat → Nat
  | [] => 0
  | j :: l => f j + tot f l
theorem tot_append (f : Nat → Nat) : ∀ l m : List Nat, tot f (l ++ m) = tot f l + tot f m
  | [], m => by simp [tot]
  | j :: l, m => by simp [tot, tot_append f l m]; omega
theorem tot_erase (f : Nat → Nat) (j : Nat) : ∀ l : List Nat, j ∈ l → tot f l = f j + tot f (l.erase j)
  | [], h => by cases h
  | i :: l, h => by
    by_cases e : i = j
    · subst e; simp [tot]
    · rw [List.erase_cons_tail (by simpa using e)]
      have := tot_erase f j l ((List.mem_cons.1 h).resolve_left (fun h => e h.symm))
      simp only [tot]
      omega
theorem tot_sub (f : Nat → Nat) : ∀ l m : List Nat, l.Nodup → (∀ j ∈ l, j ∈ m) → tot f l ≤ tot f m
  | [], m, _, _ => Nat.zero_le _
  | j :: l, m, hn, hs => by
    have hj := hs j (by simp)
    rw [List.nodup_cons] at hn
    have := tot_sub f l (m.erase j) hn.2 (fun i hi => by
      have h1 := hs i (by simp [hi])
      have h2 : i ≠ j := fun e => hn.1 (e ▸ hi)
      exact (List.mem_erase_of_ne h2).2 h1)
    rw [tot_erase f j m hj]
    simp only [tot]
    omega
theorem tot_same (f : Nat → Nat) {l m : List Nat} (hl : l.Nodup) (hm : m.Nodup) (h : ∀ j, j ∈ l ↔ j ∈ m) : tot f l = tot f m :=
  Nat.le_antisymm (tot_sub f l m hl fun j => (h j).1) (tot_sub f m l hm fun j => (h j).2)
theorem que_len (ws : Nat → List W) (roots : List W) (o : List Nat) : (que ws roots o).length = roots.length + tot (fun j => (ws j).length) o := by
  unfold que
  rw [List.length_append]
  congr 1
  induction o with
  | nil => rfl
  | cons j o ih => simp [tot, ih]
theorem reach_head {ws : Nat → List W} {hd : Nat → Int} {roots : List W} {j : Nat} : Reach (fun j => W.raw (hd j) :: ws j) roots j ↔ Reach ws roots j := by
  constructor
  · intro h
    induction h with
    | root h => exact .root h
    | word _ h ih =>
      rcases List.mem_cons.1 h with h | h
      · cases h
      · exact .word ih h
  · intro h
    induction h with
    | root h => exact .root h
    | word _ h ih => exact .word ih (List.mem_cons_of_mem _ h)
end Gc
end Go.Proofs.Ytaldcgfhlflcpaa
namespace Go.Proofs.Ytaldcgfhlflcpaa
set_option linter.unusedVariables false
namespace Sg
open As
def lab (n : Int) : It := ⟨1, 0, 0, 0, 0, 0, n, 0⟩
def thr (op a x y : Int) : It := ⟨0, op, a, x, y, 0, 0, 0⟩
def wth (op a x n : Int) : It := ⟨0, op, a, x, 0, n, 0, 0⟩
def nmb (a n : Int) : It := ⟨4, 20, a, 0, 0, 0, 0, n⟩
def iff (op x y l : Int) : It := ⟨2, op, x, y, 0, 0, l, 0⟩
def jmp (a l : Int) : It := ⟨3, 28, a, 0, 0, 0, l, 0⟩
def forwardL : List It := [lab 1003, iff 27 3 4 1005, wth 22 6 3 (0), wth 16 7 6 (7), nmb 8 (1), iff 25 7 8 1004, wth 19 7 6 (3), wth 22 9 7 (0), wth 16 10 9 (7), iff 24 10 8 1007, wth 19 10 9 (6), wth 18 6 1 (3), wth 17 6 6 (1), wth 23 9 1 (0), wth 23 6 7 (0), wth 23 6 3 (0), wth 15 1 1 (1), lab 1006, iff 24 10 0 1004, wth 15 7 7 (1), wth 22 9 7 (0), wth 23 9 1 (0), wth 15 1 1 (1), wth 15 10 10 (-1), jmp 0 1006, lab 1007, wth 23 9 3 (0), lab 1004, wth 15 3 3 (1), jmp 0 1003, lab 1005, wth 29 0 5 0]
def storeL : Nat → List It
  | 0 => []
  | k + 1 => storeL k ++ [wth 23 (k + 1) 0 k]
def loadL : Nat → List It
  | 0 => []
  | k + 1 => loadL k ++ [wth 22 (k + 1) 0 k]
def midL : List It := [wth 22 1 0 (30), wth 15 2 1 0, nmb 3 (0), nmb 4 (27), jmp 5 1003, nmb 3 (32), wth 15 4 30 0, jmp 5 1003, lab 1000, iff 27 2 1 1001, wth 15 3 2 0, wth 15 4 1 0, wth 15 2 1 0, jmp 5 1003, jmp 0 1000, lab 1001, wth 22 3 0 (28), wth 22 4 0 (30), wth 23 4 0 (28), wth 23 3 0 (30), wth 22 3 0 (29), wth 22 4 0 (31), wth 23 4 0 (29), wth 23 3 0 (31), wth 15 29 1 0, thr 1 3 1 26, wth 22 4 0 (29), iff 26 4 3 1002]
def endL : List It := [wth 29 0 31 0, lab 1002, nmb 26 (95), wth 0 26 0 0] ++ forwardL
def gcL : List It := [lab 1] ++ storeL 25 ++ midL ++ loadL 25 ++ endL
end Sg
end Go.Proofs.Ytaldcgfhlflcpaa
namespace Go.Proofs.Ytaldcgfhlflcpaa
open Go.RowKit
set_option maxRecDepth 100000
set_option linter.unusedVariables false
set_option linter.unusedSimpArgs false
namespace As
theorem tailP_length (r n : Int) : ∀ k, (tailP r n k).length = k
  | 0 => rfl
  | k + 1 => by simp [tailP, tailP_length r n k]
theorem pieces_pos (n : Int) : 1 ≤ pieces n ∧ pieces n ≤ 4 := by
  unfold pieces
  repeat' split
  all_goals omega
theorem number_length (r n : Int) {k : Nat} (h : 1 ≤ k) : (number r n k).length = k := by
  unfold number
  simp [tailP_length]
  omega
theorem may_kind {x : It} (h : may x = true) : x.kind = 0 ∨ x.kind = 1 ∨ x.kind = 2 ∨ x.kind = 3 ∨ x.kind = 4 ∨ x.kind = 5 := by
  unfold may at h
  repeat' split at h
  all_goals first | omega | (simp at h)
theorem words_length {x : It} (h : may x = true) (b : Bool) (p : Nat) (f : Int) : (words x b p f).length = size x b := by
  unfold words size
  rcases may_kind h with k | k | k | k | k | k <;> rw [k] <;> simp
  · cases b <;> simp
  · exact number_length _ _ (pieces_pos _).1
  · exact number_length _ _ (by omega)
theorem size_le (x : It) (b : Bool) : size x b ≤ 4 := by
  unfold size
  have := pieces_pos x.num
  repeat' split
  all_goals omega
theorem places_get : ∀ (l : List It) (bs : List Bool) (k i : Nat), bs.length = l.length → i < l.length → (places l bs k)[i]? = some (total (l.take i) (bs.take i) k)
  | [], _, _, _, _, h => by simp at h
  | x :: l, b :: bs, k, 0, _, _ => by simp [places, total]
  | x :: l, b :: bs, k, i + 1, h1, h2 => by
    simp only [places, List.getElem?_cons_succ, List.take_succ_cons, total]
    exact places_get l bs _ i (by simpa using h1) (by simpa using h2)
  | x :: l, [], _, _, h, _ => by simp at h
theorem total_le : ∀ (l : List It) (bs : List Bool) (k : Nat), k ≤ total l bs k ∧ total l bs k ≤ k + 4 * l.length
  | [], bs, k => by simp [total]
  | x :: l, [], k => by simp [total]
  | x :: l, b :: bs, k => by
    have h1 := total_le l bs (k + size x b)
    have h2 := size_le x b
    simp only [total, List.length_cons]
    omega
theorem write_split (all : List It) (ps : List Nat) : ∀ (l : List It) (bs : List Bool) (k i : Nat) (x : It) (b : Bool) (p : Nat), bs.length = l.length → l[i]? = some x → bs[i]? = some b → (places l bs k)[i]? = some p → (∀ y ∈ l, may y = true) →
    ∃ pre post, write all ps l bs (places l bs k) = pre ++ words x b p (far all ps x p) ++ post ∧ pre.length + k = p
  | [], _, _, _, _, _, _, _, hx, _, _, _ => by simp at hx
  | y :: l, [], _, _, _, _, _, h, _, _, _, _ => by simp at h
  | y :: l, c :: bs, k, 0, x, b, p, h, hx, hb, hp, hm => by
    simp only [places, List.getElem?_cons_zero, Option.some.injEq] at hx hb hp
    subst hx hb hp
    exact ⟨[], write all ps l bs (places l bs (k + size y c)), by simp only [places, write, List.nil_append], by simp⟩
  | y :: l, c :: bs, k, i + 1, x, b, p, h, hx, hb, hp, hm => by
    simp only [places, List.getElem?_cons_succ] at hx hb hp
    obtain ⟨pre, post, h1, h2⟩ := write_split all ps l bs (k + size y c) i x b p (by simpa using h) hx hb hp (fun z hz => hm z (by simp [hz]))
    refine ⟨words y c k (far all ps y k) ++ pre, post, ?_, ?_⟩
    · simp only [places, write]
      rw [h1]
      simp
    · rw [List.length_append, words_length (hm y (by simp))]
      omega
theorem write_length (all : List It) (ps : List Nat) : ∀ (l : List It) (bs : List Bool) (k : Nat), bs.length = l.length → (∀ y ∈ l, may y = true) → (write all ps l bs (places l bs k)).length + k = total l bs k
  | [], bs, k, _, _ => by simp [places, write, total]
  | y :: l, [], _, h, _ => by simp at h
  | y :: l, c :: bs, k, h, hm => by
    have := write_length all ps l bs (k + size y c) (by simpa using h) (fun z hz => hm z (by simp [hz]))
    simp only [places, write, total, List.length_append, words_length (hm y (by simp))]
    omega
theorem total_split : ∀ (l : List It) (bs : List Bool) (k i j : Nat), bs.length = l.length → i ≤ j → j ≤ l.length → total (l.take j) (bs.take j) k = total ((l.take j).drop i) ((bs.take j).drop i) (total (l.take i) (bs.take i) k)
  | l, bs, k, 0, j, _, _, _ => by simp [total]
  | [], _, k, i + 1, j, _, _, h => by simp at h; omega
  | x :: l, [], _, _, _, h, _, _ => by simp at h
  | x :: l, b :: bs, k, i + 1, j + 1, h, hij, hj => by
    simp only [List.take_succ_cons, List.drop_succ_cons, total]
    exact total_split l bs _ i j (by simpa using h) (by omega) (by simpa using hj)
  | x :: l, b :: bs, k, i + 1, 0, h, hij, hj => by omega
theorem total_add : ∀ (l : List It) (bs : List Bool) (k d : Nat), total l bs (k + d) = total l bs k + d
  | [], bs, k, d => by simp [total]
  | x :: l, [], k, d => by simp [total]
  | x :: l, b :: bs, k, d => by
    simp only [total]
    rw [show k + d + size x b = k + size x b + d by omega]
    exact total_add l bs _ d
end As
end Go.Proofs.Ytaldcgfhlflcpaa
namespace Go.Proofs.Ytaldcgfhlflcpaa
open Go.RowKit
set_option maxRecDepth 100000
set_option linter.unusedVariables false
set_option linter.unusedSimpArgs false
namespace As
theorem find_some (k : Int) : ∀ (l : List It) (t : Nat), find k l = some t → ∃ y, l[t]? = some y ∧ isLabel y k = true
  | [], t, h => by simp [find] at h
  | x :: l, t, h => by
    unfold find at h
    split at h
    · rename_i hx
      injection h with h
      subst h
      exact ⟨x, rfl, hx⟩
    · cases hf : find k l with
      | none => rw [hf] at h; simp at h
      | some u =>
        rw [hf] at h
        simp at h
        subst h
        obtain ⟨y, h1, h2⟩ := find_some k l u hf
        exact ⟨y, by simpa using h1, h2⟩
theorem find_lt {k : Int} {l : List It} {t : Nat} (h : find k l = some t) : t < l.length := by
  obtain ⟨y, h1, _⟩ := find_some k l t h
  exact (List.getElem?_eq_some_iff.1 h1).1
def pl (l : List It) (bs : List Bool) (i : Nat) : Nat := total (l.take i) (bs.take i) 0
theorem far_eq {l : List It} {bs : List Bool} {x : It} {t : Nat} (h : bs.length = l.length) (hf : find x.label l = some t) (p : Nat) : far l (places l bs 0) x p = (pl l bs t : Int) - p := by
  unfold far
  rw [hf, Option.bind_some, places_get l bs 0 t h (find_lt hf)]
  rfl
theorem pl_diff {l : List It} {bs : List Bool} {i j : Nat} (h : bs.length = l.length) (hij : i ≤ j) (hj : j ≤ l.length) : pl l bs j = pl l bs i + total ((l.take j).drop i) ((bs.take j).drop i) 0 := by
  unfold pl
  rw [total_split l bs 0 i j h hij hj]
  have := total_add ((l.take j).drop i) ((bs.take j).drop i) 0 (total (l.take i) (bs.take i) 0)
  rw [Nat.zero_add] at this
  omega
theorem grow_get (all : List It) (ps : List Nat) : ∀ (l : List It) (bs : List Bool) (qs : List Nat) (i : Nat) (x : It) (b : Bool) (q : Nat), l[i]? = some x → bs[i]? = some b → qs[i]? = some q → (grow all ps l bs qs)[i]? = some (stretch all ps x b q)
  | x :: l, b :: bs, q :: qs, 0, _, _, _, h1, h2, h3 => by
    simp only [List.getElem?_cons_zero, Option.some.injEq] at h1 h2 h3
    subst h1 h2 h3
    simp [grow]
  | x :: l, b :: bs, q :: qs, i + 1, _, _, _, h1, h2, h3 => by
    simp only [List.getElem?_cons_succ, grow] at h1 h2 h3 ⊢
    exact grow_get all ps l bs qs i _ _ _ h1 h2 h3
  | [], _, _, _, _, _, _, h1, _, _ => by simp at h1
  | _ :: _, [], _, _, _, _, _, _, h2, _ => by simp at h2
  | _ :: _, _ :: _, [], _, _, _, _, _, _, h3 => by simp at h3
end As
end Go.Proofs.Ytaldcgfhlflcpaa
namespace Go.Proofs.Ytaldcgfhlflcpaa
open Go.RowKit
set_option maxRecDepth 100000
set_option linter.unusedVariables false
set_option linter.unusedSimpArgs false
namespace As
theorem find_none (k : Int) : ∀ (l : List It), find k l = none ↔ ∀ y ∈ l, isLabel y k = false
  | [] => by simp [find]
  | x :: l => by
    unfold find
    split
    · rename_i h; simp [h]
    · rename_i h
      simp only [Option.map_eq_none_iff, find_none k l, List.mem_cons, forall_eq_or_imp]
      simp [h]
theorem errA_zero : ∀ (l pre : List It), errA pre l = 0 → (∀ x ∈ l, may x = true) ∧ ∀ (i : Nat) (x : It), l[i]? = some x → x.kind = 1 → find x.label (pre ++ l.take i) = none
  | [], pre, _ => ⟨by simp, by simp⟩
  | y :: l, pre, h => by
    unfold errA at h
    by_cases h1 : may y = false
    · rw [if_pos h1] at h; simp at h
    · rw [if_neg h1] at h
      by_cases h2 : y.kind = 1 ∧ (find y.label pre).isSome = true
      · rw [if_pos h2] at h; simp at h
      · rw [if_neg h2] at h
        obtain ⟨g1, g2⟩ := errA_zero l (pre ++ [y]) h
        refine ⟨fun x hx => ?_, fun i x hx hk => ?_⟩
        · rcases List.mem_cons.1 hx with rfl | hx
          · simpa using h1
          · exact g1 x hx
        · cases i with
          | zero =>
            simp at hx
            subst hx
            simp only [List.take_zero, List.append_nil]
            cases hf : find y.label pre with
            | none => rfl
            | some t => exact absurd ⟨hk, by rw [hf]; rfl⟩ h2
          | succ i =>
            have := g2 i x (by simpa using hx) hk
            simpa using this
theorem errN_zero (all : List It) : ∀ (l : List It), errN all l = 0 → ∀ x ∈ l, names x = true → ∃ t, find x.label all = some t
  | [], _ => by simp
  | y :: l, h => by
    unfold errN at h
    by_cases h1 : names y = true ∧ find y.label all = none
    · rw [if_pos h1] at h; simp at h
    · rw [if_neg h1] at h
      intro x hx hn
      rcases List.mem_cons.1 hx with rfl | hx
      · cases hf : find x.label all with
        | none => exact absurd ⟨hn, hf⟩ h1
        | some t => exact ⟨t, rfl⟩
      · exact errN_zero all l h x hx hn
structure Good (l : List It) : Prop where
  len : l.length ≤ 65536
  may : ∀ x ∈ l, may x = true
  once : ∀ (i j : Nat) (x y : It), l[i]? = some x → l[j]? = some y → x.kind = 1 → y.kind = 1 → x.label = y.label → i = j
  has : ∀ x ∈ l, names x = true → ∃ t, find x.label l = some t
theorem good_of {l : List It} (h : err l = 0) : Good l := by
  unfold err at h
  by_cases h1 : 65536 < l.length
  · rw [if_pos h1] at h; simp at h
  · rw [if_neg h1] at h
    by_cases h2 : errA [] l = 0
    · simp only [h2, ne_eq, not_true_eq_false, if_false] at h
      obtain ⟨g1, g2⟩ := errA_zero l [] h2
      refine ⟨by omega, g1, fun i j x y hx hy hkx hky hl => ?_, errN_zero l l h⟩
      have key : ∀ (i j : Nat) (x y : It), l[i]? = some x → l[j]? = some y → x.kind = 1 → y.kind = 1 → x.label = y.label → ¬ i < j := by
        intro i j x y hx hy hkx hky hl hij
        have h3 := g2 j y hy hky
        rw [List.nil_append, find_none] at h3
        have hm : x ∈ l.take j := by
          refine List.mem_iff_getElem?.2 ⟨i, ?_⟩
          rw [List.getElem?_take, if_pos hij]
          exact hx
        have := h3 x hm
        simp [isLabel, hkx, hl] at this
      have a := key i j x y hx hy hkx hky hl
      have b := key j i y x hy hx hky hkx hl.symm
      omega
    · rw [if_pos h2] at h; exact absurd h h2
theorem not_bad_n {op a b c n m : Int} (h : ¬ Rs.Bad op a b c m) (h1 : Rs.least op ≤ n) (h2 : n ≤ Rs.most op) : ¬ Rs.Bad op a b c n := by
  unfold Rs.Bad at *
  simp only [not_or, Bool.not_eq_false, Int.not_lt] at h ⊢
  obtain ⟨a1, a2, a3, a4, a5, a6, a7, a8⟩ := h
  exact ⟨a1, a2, a3, a4, a5, a6, h1, h2⟩
theorem encOk_not_bad {x : It} (h : encOk x = true) : ¬ Rs.Bad x.op x.a x.b x.c x.n := by
  have h1 := of_decide_eq_true h
  intro hb
  rw [show Rs.encE _ _ _ _ _ = 200 from if_pos hb] at h1
  exact absurd h1 (by decide)
theorem pl_le {l : List It} (bs : List Bool) {i : Nat} (h : l.length ≤ 65536) : pl l bs i ≤ 262144 := by
  have := (total_le (l.take i) (bs.take i) 0).2
  have h2 : (l.take i).length ≤ l.length := by simp; omega
  unfold pl
  omega
theorem code_split {l : List It} (hg : Good l) {i : Nat} {x : It} (hx : l[i]? = some x) : ∃ (b : Bool) (pre post : List Int), (longs l)[i]? = some b ∧ code l = pre ++ words x b (pl l (longs l) i) (far l (places0 l) x (pl l (longs l) i)) ++ post ∧ pre.length = pl l (longs l) i := by
  have hi : i < l.length := (List.getElem?_eq_some_iff.1 hx).1
  have hlen := (longs_fix l).2
  obtain ⟨b, hb⟩ : ∃ b, (longs l)[i]? = some b := ⟨_, List.getElem?_eq_getElem (by omega)⟩
  have hp := places_get l (longs l) 0 i hlen hi
  obtain ⟨pre, post, h1, h2⟩ := write_split l (places0 l) l (longs l) 0 i x b _ hlen hx hb hp hg.may
  exact ⟨b, pre, post, hb, h1, by have h3 := h2; rw [Nat.add_zero] at h3; exact h3⟩
theorem may_2 {x : It} (h : may x = true) (hk : x.kind = 2) : ¬ Rs.Bad x.op x.a x.b x.c 0 ∧ 24 ≤ x.op ∧ x.op ≤ 27 ∧ x.n = 0 ∧ x.num = 0 := by
  unfold may at h
  rw [hk] at h
  simp at h
  obtain ⟨⟨⟨⟨h1, h2⟩, h3⟩, h4⟩, h5⟩ := h
  have := encOk_not_bad h1
  rw [h4] at this
  exact ⟨this, h2, h3, h4, h5⟩
theorem may_3 {x : It} (h : may x = true) (hk : x.kind = 3) : ¬ Rs.Bad x.op x.a x.b x.c 0 ∧ x.op = 28 ∧ x.n = 0 ∧ x.num = 0 := by
  unfold may at h
  rw [hk] at h
  simp at h
  obtain ⟨⟨⟨h1, h2⟩, h3⟩, h4⟩ := h
  have := encOk_not_bad h1
  rw [h3] at this
  exact ⟨this, h2, h3, h4⟩
theorem form_45 {op : Int} (h1 : 24 ≤ op) (h2 : op ≤ 28) : Rs.form op = 4 ∨ Rs.form op = 5 := by
  unfold Rs.form
  rw [if_neg (by omega), if_neg (by omega), if_neg (by omega), if_neg (by omega)]
  by_cases h : 24 ≤ op ∧ op ≤ 27
  · rw [if_pos h]; exact .inl rfl
  · rw [if_neg h, if_pos (by omega)]; exact .inr rfl
theorem c_zero {op a b c n : Int} (h : ¬ Rs.Bad op a b c n) (h1 : 24 ≤ op) (h2 : op ≤ 28) : c = 0 ∧ (op = 28 → b = 0) := by
  unfold Rs.Bad at h
  simp only [not_or, not_and, Int.not_lt] at h
  have hf := form_45 h1 h2
  refine ⟨?_, fun h28 => ?_⟩
  · have := h.2.2.2.2.2.1 (by omega)
    exact Decidable.byContradiction this
  · have : Rs.form op = 5 := by rw [h28]; rfl
    exact Decidable.byContradiction (h.2.2.2.2.1 (.inr (.inr this)))
theorem getD_split {pre ws post : List Int} {p j : Nat} (h : pre.length = p) (hj : j < ws.length) : (pre ++ ws ++ post).getD (p + j) 0 = ws.getD j 0 ∧ p + j < (pre ++ ws ++ post).length := by
  subst h
  refine ⟨?_, by simp; omega⟩
  rw [List.getD_eq_getElem?_getD, List.append_assoc, List.getElem?_append_right (by omega), List.getElem?_append_left (by omega), List.getD_eq_getElem?_getD]
  congr 2
  omega
end As
end Go.Proofs.Ytaldcgfhlflcpaa
namespace Go.Proofs.Ytaldcgfhlflcpaa
open Go.RowKit
set_option maxRecDepth 100000
set_option linter.unusedVariables false
set_option linter.unusedSimpArgs false
namespace As
def Plain (m : List It) : Prop := ∀ x ∈ m, x.kind = 0 ∨ x.kind = 4
theorem find_append {m : List It} (hm : Plain m) (k : Int) : ∀ l : List It, find k (l ++ m) = find k l
  | [] => by
    rw [List.nil_append, show find k [] = none from rfl, find_none]
    intro y hy
    have := hm y hy
    unfold isLabel
    rcases this with h | h <;> rw [h] <;> rfl
  | x :: l => by
    simp only [List.cons_append, find, find_append hm k l]
theorem places_append : ∀ (l m : List It) (bs cs : List Bool) (k : Nat), bs.length = l.length → places (l ++ m) (bs ++ cs) k = places l bs k ++ places m cs (total l bs k)
  | [], m, bs, cs, k, h => by have : bs = [] := List.eq_nil_of_length_eq_zero (by simpa using h); subst this; simp [places, total]
  | x :: l, m, b :: bs, cs, k, h => by
    simp only [List.cons_append, places, total, places_append l m bs cs _ (by simpa using h)]
  | x :: l, m, [], cs, k, h => by simp at h
theorem far_append {l m : List It} (hm : Plain m) {ps qs : List Nat} (h : ps.length = l.length) (x : It) (p : Nat) : far (l ++ m) (ps ++ qs) x p = far l ps x p := by
  unfold far
  rw [find_append hm]
  cases hf : find x.label l with
  | none => rfl
  | some t =>
    rw [Option.bind_some, Option.bind_some, List.getElem?_append_left (by have := find_lt hf; omega)]
theorem grow_app (all : List It) (ps : List Nat) : ∀ (l m : List It) (bs cs : List Bool) (qs rs : List Nat), bs.length = l.length → qs.length = l.length → grow all ps (l ++ m) (bs ++ cs) (qs ++ rs) = grow all ps l bs qs ++ grow all ps m cs rs
  | [], m, bs, cs, qs, rs, h1, h2 => by
    have e1 : bs = [] := List.eq_nil_of_length_eq_zero (by simpa using h1)
    have e2 : qs = [] := List.eq_nil_of_length_eq_zero (by simpa using h2)
    subst e1 e2
    simp [grow]
  | x :: l, m, b :: bs, cs, q :: qs, rs, h1, h2 => by
    simp only [List.cons_append, grow, grow_app all ps l m bs cs qs rs (by simpa using h1) (by simpa using h2)]
  | x :: l, m, [], _, _, _, h1, _ => by simp at h1
  | x :: l, m, _ :: _, _, [], _, _, h2 => by simp at h2
theorem grow_far {all all' : List It} {ps ps' : List Nat} (h : ∀ x p, far all ps x p = far all' ps' x p) : ∀ (l : List It) (bs : List Bool) (qs : List Nat), grow all ps l bs qs = grow all' ps' l bs qs
  | [], _, _ => by simp [grow]
  | x :: l, [], _ => by simp [grow]
  | x :: l, _ :: _, [] => by simp [grow]
  | x :: l, b :: bs, q :: qs => by simp only [grow, stretch, h, grow_far h l bs qs]
theorem grow_plain (all : List It) (ps : List Nat) : ∀ (m : List It) (qs : List Nat), Plain m → qs.length = m.length → grow all ps m (List.replicate m.length false) qs = List.replicate m.length false
  | [], _, _, _ => by simp [grow]
  | x :: m, q :: qs, hm, h => by
    have hx := hm x (by simp)
    have hk : ¬ x.kind = 2 := by omega
    simp only [List.length_cons, List.replicate_succ, grow, stretch, hk, decide_false, Bool.false_or, Bool.false_and]
    rw [grow_plain all ps m qs (fun y hy => hm y (by simp [hy])) (by simpa using h)]
  | x :: m, [], _, h => by simp at h
theorem layout_append {m : List It} (hm : Plain m) (l : List It) : ∀ (k : Nat) (bs : List Bool), bs.length = l.length → layout (l ++ m) k (bs ++ List.replicate m.length false) = layout l k bs ++ List.replicate m.length false
  | 0, bs, _ => rfl
  | k + 1, bs, h => by
    have hp := places_length l bs 0 h
    have hq := places_length m (List.replicate m.length false) (total l bs 0) (by simp)
    have hg : grow (l ++ m) (places (l ++ m) (bs ++ List.replicate m.length false) 0) (l ++ m) (bs ++ List.replicate m.length false) (places (l ++ m) (bs ++ List.replicate m.length false) 0) = grow l (places l bs 0) l bs (places l bs 0) ++ List.replicate m.length false := by
      rw [places_append l m bs _ 0 h, grow_app _ _ l m bs _ _ _ h hp, grow_plain _ _ m _ hm hq, grow_far (fun x p => far_append hm hp x p)]
    unfold layout
    rw [hg]
    by_cases he : grow l (places l bs 0) l bs (places l bs 0) = bs
    · rw [if_pos he, if_pos (by rw [he])]
    · rw [if_neg he, if_neg (fun e => he (List.append_cancel_right e))]
      exact layout_append hm l k _ (grow_length _ _ _ _ _ h hp)
theorem layout_more (l : List It) : ∀ (k : Nat) (bs : List Bool), grow l (places l (layout l k bs) 0) l (layout l k bs) (places l (layout l k bs) 0) = layout l k bs → ∀ j, layout l (k + j) bs = layout l k bs
  | 0, bs, h, j => by
    have h' : grow l (places l bs 0) l bs (places l bs 0) = bs := h
    cases j with
    | zero => rfl
    | succ j =>
      show layout l (0 + j + 1) bs = bs
      unfold layout
      rw [if_pos h']
  | k + 1, bs, h, j => by
    rw [show k + 1 + j = k + j + 1 by omega]
    unfold layout at h ⊢
    by_cases he : grow l (places l bs 0) l bs (places l bs 0) = bs
    · rw [if_pos he, if_pos he]
    · rw [if_neg he] at h
      rw [if_neg he, if_neg he]
      exact layout_more l k _ h j
theorem longs_append {l m : List It} (hm : Plain m) : longs (l ++ m) = longs l ++ List.replicate m.length false := by
  have h1 : longs (l ++ m) = layout (l ++ m) (l.length + 1 + m.length) (List.replicate l.length false ++ List.replicate m.length false) := by
    unfold longs
    rw [List.length_append, ← List.replicate_append_replicate]
    congr 1
    omega
  rw [h1, layout_append hm l _ _ (by simp), layout_more l _ _ (longs_fix l).1]
  rfl
theorem longs_plain {m : List It} (hm : Plain m) : longs m = List.replicate m.length false := by
  have := longs_append (l := []) hm
  simpa [longs, layout, grow] using this
theorem places_shift : ∀ (m : List It) (bs : List Bool) (k : Nat), places m bs k = (places m bs 0).map (· + k)
  | [], bs, k => by simp [places]
  | x :: m, [], k => by simp [places]
  | x :: m, b :: bs, k => by
    simp only [places, List.map_cons]
    rw [places_shift m bs (k + size x b), places_shift m bs (0 + size x b)]
    simp only [List.map_map, Nat.zero_add]
    congr 1
    exact List.map_congr_left (fun y _ => by simp; omega)
theorem write_app (all : List It) (ps : List Nat) : ∀ (l m : List It) (bs cs : List Bool) (qs rs : List Nat), bs.length = l.length → qs.length = l.length → write all ps (l ++ m) (bs ++ cs) (qs ++ rs) = write all ps l bs qs ++ write all ps m cs rs
  | [], m, bs, cs, qs, rs, h1, h2 => by
    have e1 : bs = [] := List.eq_nil_of_length_eq_zero (by simpa using h1)
    have e2 : qs = [] := List.eq_nil_of_length_eq_zero (by simpa using h2)
    subst e1 e2
    simp [write]
  | x :: l, m, b :: bs, cs, q :: qs, rs, h1, h2 => by
    simp only [List.cons_append, write, write_app all ps l m bs cs qs rs (by simpa using h1) (by simpa using h2), List.append_assoc]
  | x :: l, m, [], _, _, _, h1, _ => by simp at h1
  | x :: l, m, _ :: _, _, [], _, _, h2 => by simp at h2
theorem write_plain (all all' : List It) (ps ps' : List Nat) : ∀ (m : List It) (bs : List Bool) (qs rs : List Nat), Plain m → bs.length = m.length → qs.length = m.length → rs.length = m.length → write all ps m bs qs = write all' ps' m bs rs
  | [], _, _, _, _, _, _, _ => by simp [write]
  | x :: m, b :: bs, q :: qs, r :: rs, hm, h1, h2, h3 => by
    have hx := hm x (by simp)
    have hw : ∀ (p p' : Nat) (f f' : Int), words x b p f = words x b p' f' := by
      intro p p' f f'
      unfold words
      rcases hx with hx | hx <;> rw [hx] <;> simp
    simp only [write]
    rw [hw q r _ (far all' ps' x r), write_plain all all' ps ps' m bs qs rs (fun y hy => hm y (by simp [hy])) (by simpa using h1) (by simpa using h2) (by simpa using h3)]
  | x :: m, [], _, _, _, h, _, _ => by simp at h
  | x :: m, _ :: _, [], _, _, _, h, _ => by simp at h
  | x :: m, _ :: _, _ :: _, [], _, _, _, h => by simp at h
theorem errA_append : ∀ (l pre m : List It), errA pre l = 0 → errA pre (l ++ m) = errA (pre ++ l) m
  | [], pre, m, _ => by simp
  | x :: l, pre, m, h => by
    unfold errA at h
    by_cases h1 : may x = false
    · rw [if_pos h1] at h; simp at h
    · rw [if_neg h1] at h
      by_cases h2 : x.kind = 1 ∧ (find x.label pre).isSome = true
      · rw [if_pos h2] at h; simp at h
      · rw [if_neg h2] at h
        rw [List.cons_append, errA, if_neg h1, if_neg h2, errA_append l (pre ++ [x]) m h]
        simp
end As
end Go.Proofs.Ytaldcgfhlflcpaa
namespace Go.Proofs.Ytaldcgfhlflcpaa
open Go.RowKit
set_option maxRecDepth 100000
set_option linter.unusedVariables false
set_option linter.unusedSimpArgs false
namespace As
theorem drop_cons {l : List It} {k : Nat} {x : It} (hx : l[k]? = some x) : l.drop k = x :: l.drop (k + 1) ∧ l.take k ++ [x] = l.take (k + 1) := by
  have hk : k < l.length := (List.getElem?_eq_some_iff.1 hx).1
  have hb : l[k] = x := by rw [List.getElem?_eq_getElem hk] at hx; simpa using hx
  refine ⟨by rw [List.drop_eq_getElem_cons hk, hb], by rw [List.take_add_one, hx]; rfl⟩
theorem errA_step {l : List It} {k : Nat} {x : It} (hx : l[k]? = some x) : errA (l.take k) (l.drop k) = if may x = false then 210 else if x.kind = 1 ∧ (find x.label (l.take k)).isSome = true then 211 else errA (l.take (k + 1)) (l.drop (k + 1)) := by
  rw [(drop_cons hx).1, errA, (drop_cons hx).2]
theorem errN_step {all l : List It} {k : Nat} {x : It} (hx : l[k]? = some x) : errN all (l.drop k) = if names x = true ∧ find x.label all = none then 212 else errN all (l.drop (k + 1)) := by
  rw [(drop_cons hx).1, errN]
theorem err_A {l : List It} {z : Int} (h : l.length ≤ 65536) (he : errA [] l = z) (hz : z ≠ 0) : err l = z := by
  unfold err
  rw [if_neg (by omega), he, if_pos hz]
theorem err_N {l : List It} {z : Int} (h : l.length ≤ 65536) (he : errA [] l = 0) (hn : errN l l = z) : err l = z := by
  unfold err
  rw [if_neg (by omega), he, if_neg (by simp), hn]
theorem find_snoc (k : Int) (x : It) : ∀ p : List It, find k (p ++ [x]) = match find k p with
    | some t => some t
    | none => if isLabel x k = true then some p.length else none
  | [] => by simp [find]
  | y :: p => by
    simp only [List.cons_append, find]
    by_cases h : isLabel y k = true
    · rw [if_pos h, if_pos h]
    · rw [if_neg h, if_neg h, find_snoc k x p]
      cases hf : find k p with
      | some t => simp
      | none => by_cases h2 : isLabel x k = true <;> simp [h2]
def cod (l : List It) (k : Nat) : List Int := write l (places0 l) (l.take k) ((longs l).take k) ((places0 l).take k)
theorem places0_get {l : List It} {k : Nat} (h : k < l.length) : (places0 l)[k]? = some (pl l (longs l) k) := places_get l (longs l) 0 k (longs_fix l).2 h
theorem places0_length (l : List It) : (places0 l).length = l.length := places_length l (longs l) 0 (longs_fix l).2
theorem cod_succ {l : List It} {k : Nat} {x : It} {b : Bool} (hx : l[k]? = some x) (hb : (longs l)[k]? = some b) : cod l (k + 1) = cod l k ++ words x b (pl l (longs l) k) (far l (places0 l) x (pl l (longs l) k)) := by
  have hk : k < l.length := (List.getElem?_eq_some_iff.1 hx).1
  have h1 := (longs_fix l).2
  have h2 := places0_length l
  unfold cod
  rw [List.take_add_one, List.take_add_one, List.take_add_one, hx, hb, places0_get hk]
  simp only [Option.toList_some]
  rw [write_app _ _ _ _ _ _ _ _ (by simp; omega) (by simp; omega)]
  simp [write]
theorem cod_full (l : List It) : cod l l.length = code l := by
  have h1 := (longs_fix l).2
  have h2 := places0_length l
  unfold cod code
  rw [List.take_length, List.take_of_length_le (by omega), List.take_of_length_le (by omega)]
theorem write_len (all : List It) (ps : List Nat) : ∀ (l : List It) (bs : List Bool) (qs : List Nat), (∀ y ∈ l, may y = true) → (write all ps l bs qs).length ≤ 4 * l.length
  | [], _, _, _ => by simp [write]
  | x :: l, [], _, _ => by simp [write]
  | x :: l, b :: bs, [], _ => by simp [write]
  | x :: l, b :: bs, q :: qs, h => by
    have h1 := write_len all ps l bs qs (fun y hy => h y (by simp [hy]))
    have h2 := words_length (h x (by simp)) b q (far all ps x q)
    have h3 := size_le x b
    simp only [write, List.length_append, List.length_cons]
    omega
theorem cod_len {l : List It} (hm : ∀ y ∈ l, may y = true) (k : Nat) (h : l.length ≤ 65536) : (cod l k).length ≤ 262144 := by
  have := write_len l (places0 l) (l.take k) ((longs l).take k) ((places0 l).take k) (fun y hy => hm y (List.mem_of_mem_take hy))
  unfold cod
  simp at this
  omega
end As
end Go.Proofs.Ytaldcgfhlflcpaa
