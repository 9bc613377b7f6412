/- The free names of an expression, as a rising list. -/
import Derived.Lib.Strings
import Derived.Test.YtkplkgdfphbldaaGreatHJay
namespace Go.Proofs.YtkplkgdfphbldaaGreat
open Go.RowKit
set_option linter.unusedVariables false
set_option linter.unusedSimpArgs false
set_option linter.unnecessarySimpa false
set_option maxRecDepth 100000
namespace Ex
theorem less_lt : ∀ (x y : List UInt8), Op.bytesLess x y = decide (x < y)
 | [], [] => by simp [Op.bytesLess]
 | _ :: _, [] => by simp [Op.bytesLess]
 | [], _ :: _ => by simp [Op.bytesLess]
 | a :: x, b :: y => by
  rw [Op.bytesLess, less_lt x y]
  simp only [List.cons_lt_cons_iff]
  by_cases h1 : a < b <;> by_cases h2 : a = b <;> by_cases h3 : x < y <;> simp [h1, h2, h3]
def ltB (a b : ByteArray) : Bool := Op.bytesLess a.toList b.toList
theorem ltB_iff (a b : ByteArray) : ltB a b = true ↔ a.toList < b.toList := by
 unfold ltB
 rw [less_lt, decide_eq_true_eq]
theorem ltB_irrefl (a : ByteArray) : ltB a a = false := by
 rw [← Bool.not_eq_true, ltB_iff]
 exact List.lt_irrefl _
theorem ltB_trans {a b c : ByteArray} (h1 : ltB a b = true) (h2 : ltB b c = true) : ltB a c = true := by
 rw [ltB_iff] at *
 exact List.lt_trans h1 h2
theorem toList_inj {a b : ByteArray} (h : a.toList = b.toList) : a = b := by
 rw [Lib.toList_data, Lib.toList_data] at h
 cases a; cases b
 congr
 exact Array.toList_inj.1 h
theorem ltB_total {a b : ByteArray} (h1 : a ≠ b) (h2 : ltB a b = false) : ltB b a = true := by
 rw [← Bool.not_eq_true, ltB_iff] at h2
 rw [ltB_iff]
 have h3 : b.toList ≤ a.toList := List.not_lt.1 h2
 by_cases h : b.toList < a.toList
 ·exact h
 ·exact absurd (toList_inj (List.le_antisymm (List.not_lt.1 h) h3)) h1
def ins (s : ByteArray) : List ByteArray → List ByteArray
 | [] => [s]
 | x :: l => if ltB s x then s :: x :: l else x :: ins s l
def putL (l : List ByteArray) (s : ByteArray) : List ByteArray := if inN l s then l else ins s l
def Rise (l : List ByteArray) : Prop := l.Pairwise fun a b => ltB a b = true
theorem ins_mem (s x : ByteArray) : ∀ l : List ByteArray, x ∈ ins s l ↔ x = s ∨ x ∈ l
 | [] => by simp [ins]
 | y :: l => by
  rw [ins]
  split
  ·simp
  ·simp only [List.mem_cons, ins_mem s x l]
   constructor
   ·rintro (h | h | h)
    ·exact .inr (.inl h)
    ·exact .inl h
    ·exact .inr (.inr h)
   ·rintro (h | h | h)
    ·exact .inr (.inl h)
    ·exact .inl h
    ·exact .inr (.inr h)
theorem ins_rise (s : ByteArray) : ∀ l : List ByteArray, Rise l → s ∉ l → Rise (ins s l)
 | [], _, _ => List.pairwise_singleton _ _
 | y :: l, h, hs => by
  rw [ins]
  have h' := List.pairwise_cons.1 h
  split
  ·rename_i hl
   refine List.pairwise_cons.2 ⟨fun z hz => ?_, h⟩
   rcases List.mem_cons.1 hz with rfl | hz
   ·exact hl
   ·exact ltB_trans hl (h'.1 z hz)
  ·rename_i hl
   simp only [List.mem_cons, not_or] at hs
   refine List.pairwise_cons.2 ⟨fun z hz => ?_, ins_rise s l h'.2 hs.2⟩
   rcases (ins_mem s z l).1 hz with rfl | hz
   ·exact ltB_total hs.1 (by simpa using hl)
   ·exact h'.1 z hz
theorem putL_mem (l : List ByteArray) (s x : ByteArray) : x ∈ putL l s ↔ x = s ∨ x ∈ l := by
 unfold putL
 split
 ·rename_i h
  exact ⟨.inr, fun h2 => h2.elim (fun e => e ▸ (inN_iff _ _).1 h) id⟩
 ·exact ins_mem s x l
theorem putL_rise {l : List ByteArray} (s : ByteArray) (h : Rise l) : Rise (putL l s) := by
 unfold putL
 split
 ·exact h
 ·rename_i hn
  exact ins_rise s l h fun hc => hn ((inN_iff _ _).2 hc)
theorem rise_eq : ∀ (l m : List ByteArray), Rise l → Rise m → (∀ s, s ∈ l ↔ s ∈ m) → l = m
 | [], [], _, _, _ => rfl
 | [], y :: m, _, _, h => by have := (h y).2 (by simp); simp at this
 | x :: l, [], _, _, h => by have := (h x).1 (by simp); simp at this
 | x :: l, y :: m, h1, h2, h => by
  have a1 := List.pairwise_cons.1 h1
  have a2 := List.pairwise_cons.1 h2
  have e : x = y := by
   rcases List.mem_cons.1 ((h x).1 (by simp)) with e | hx
   ·exact e
   ·rcases List.mem_cons.1 ((h y).2 (by simp)) with e | hy
    ·exact e.symm
    ·have := ltB_trans (a1.1 y hy) (a2.1 x hx)
     rw [ltB_irrefl] at this
     cases this
  subst e
  rw [rise_eq l m a1.2 a2.2 fun s => ?_]
  constructor
  ·intro hs
   rcases List.mem_cons.1 ((h s).1 (by simp [hs])) with e | hm
   ·have := a1.1 s hs
    rw [e, ltB_irrefl] at this
    cases this
   ·exact hm
  ·intro hs
   rcases List.mem_cons.1 ((h s).2 (by simp [hs])) with e | hm
   ·have := a2.1 s hs
    rw [e, ltB_irrefl] at this
    cases this
   ·exact hm
mutual
def frees : Ex → List ByteArray → List ByteArray → List ByteArray
 | mk k nm ns _ ks, bound, out => freesL k ns ks.length bound 0 ks (if (decide (k = 1) || decide (k = 2)) && !inN bound nm then putL out nm else out)
def freesL (k : Int) (ns : List ByteArray) (n : Nat) (bound : List ByteArray) : Nat → List Ex → List ByteArray → List ByteArray
 | _, [], out => out
 | i, x :: l, out => freesL k ns n bound (i + 1) l (frees x (if binds k n i then bound ++ ns else bound) out)
end
theorem frees_eq (e : Ex) (bound out : List ByteArray) : frees e bound out = freesL e.kind e.names e.kids.length bound 0 e.kids (if (decide (e.kind = 1) || decide (e.kind = 2)) && !inN bound e.name then putL out e.name else out) := by
 cases e; rw [frees]; rfl
theorem frees_mem (s : ByteArray) (e : Ex) : ∀ bound out : List ByteArray, s ∈ frees e bound out ↔ s ∈ out ∨ (isFree s e = true ∧ s ∉ bound) := by
 induction e using byKids with
 | h e ih =>
  intro bound out
  have hL : ∀ (l : List Ex) (i : Nat) (out : List ByteArray), (∀ x ∈ l, x ∈ e.kids) → (s ∈ freesL e.kind e.names e.kids.length bound i l out ↔ s ∈ out ∨ (isFreeL s e.kind e.names e.kids.length i l = true ∧ s ∉ bound)) := by
   intro l
   induction l with
   | nil => intro i out _; simp [freesL, isFreeL]
   | cons x l ihl =>
    intro i out hm
    rw [freesL, ihl (i + 1) _ (fun y hy => hm y (by simp [hy])), ih x (hm x (by simp)), isFreeL]
    have hb : s ∉ (if binds e.kind e.kids.length i = true then bound ++ e.names else bound) ↔ s ∉ bound ∧ (binds e.kind e.kids.length i && inN e.names s) = false := by
     cases hbi : binds e.kind e.kids.length i
     ·simp
     ·have : inN e.names s = false ↔ s ∉ e.names := by rw [← Bool.not_eq_true, inN_iff]
      simp [this, not_or]
    rw [hb]
    simp only [Bool.or_eq_true, Bool.and_eq_true, Bool.not_eq_true']
    constructor
    ·rintro ((h | ⟨h1, h2, h3⟩) | ⟨h1, h2⟩)
     ·exact .inl h
     ·exact .inr ⟨.inl ⟨h3, h1⟩, h2⟩
     ·exact .inr ⟨.inr h1, h2⟩
    ·rintro (h | ⟨⟨h3, h1⟩ | h1, h2⟩)
     ·exact .inl (.inl h)
     ·exact .inl (.inr ⟨h1, h2, h3⟩)
     ·exact .inr ⟨h1, h2⟩
  rw [frees_eq, hL e.kids 0 _ (fun _ h => h)]
  have e1 : isFree s e = (((decide (e.kind = 1) || decide (e.kind = 2)) && decide (e.name = s)) || isFreeL s e.kind e.names e.kids.length 0 e.kids) := by
   cases e; rw [isFree]; rfl
  rw [e1, Bool.or_eq_true]
  cases hk : (decide (e.kind = 1) || decide (e.kind = 2))
  ·simp
  ·cases hn : inN bound e.name
   ·have hn' : e.name ∉ bound := fun hc => by rw [(inN_iff _ _).2 hc] at hn; cases hn
    simp only [Bool.true_and, Bool.not_false, if_true, putL_mem, decide_eq_true_eq]
    constructor
    ·rintro ((rfl | h) | ⟨h1, h2⟩)
     ·exact .inr ⟨.inl rfl, hn'⟩
     ·exact .inl h
     ·exact .inr ⟨.inr h1, h2⟩
    ·rintro (h | ⟨rfl | h1, h2⟩)
     ·exact .inl (.inr h)
     ·exact .inl (.inl rfl)
     ·exact .inr ⟨h1, h2⟩
   ·have hn' := (inN_iff _ _).1 hn
    simp only [Bool.true_and, Bool.not_true, Bool.false_eq_true, if_false, decide_eq_true_eq]
    constructor
    ·rintro (h | ⟨h1, h2⟩)
     ·exact .inl h
     ·exact .inr ⟨.inr h1, h2⟩
    ·rintro (h | ⟨rfl | h1, h2⟩)
     ·exact .inl h
     ·exact absurd hn' h2
     ·exact .inr ⟨h1, h2⟩
theorem frees_rise (e : Ex) : ∀ bound out : List ByteArray, Rise out → Rise (frees e bound out) := by
 induction e using byKids with
 | h e ih =>
  intro bound out hout
  have hL : ∀ (l : List Ex) (i : Nat) (out : List ByteArray), (∀ x ∈ l, x ∈ e.kids) → Rise out → Rise (freesL e.kind e.names e.kids.length bound i l out) := by
   intro l
   induction l with
   | nil => intro i out _ h; exact h
   | cons x l ihl =>
    intro i out hm h
    rw [freesL]
    exact ihl (i + 1) _ (fun y hy => hm y (by simp [hy])) (ih x (hm x (by simp)) _ _ h)
  rw [frees_eq]
  refine hL e.kids 0 _ (fun _ h => h) ?_
  split
  ·exact putL_rise _ hout
  ·exact hout
def freeNames (e : Ex) : List ByteArray := frees e [] []
theorem freeNames_eq {e d : Ex} (h : ∀ s, isFree s e = isFree s d) : freeNames e = freeNames d := by
 refine rise_eq _ _ (frees_rise _ _ _ List.Pairwise.nil) (frees_rise _ _ _ List.Pairwise.nil) fun s => ?_
 unfold freeNames
 rw [frees_mem, frees_mem, h s]
end Ex
end Go.Proofs.YtkplkgdfphbldaaGreat
