/- Maps of the call's own as association lists: look up, put, delete, at the model's own operations. -/
import Derived.Maps.OwnSet
import Derived.StillTailTactics
import Derived.Test.YtkplkgdfphbldaaGreatHJab
namespace Go.Proofs.YtkplkgdfphbldaaGreat
open Go.RowKit
set_option linter.unusedVariables false
set_option linter.unusedSimpArgs false
set_option linter.unnecessarySimpa false
set_option maxRecDepth 100000
section
variable {κ : Type} [DecidableEq κ]
def alook : List (κ × Value) → κ → Option Value
 | [], _ => none
 | p :: l, k => if k = p.1 then some p.2 else alook l k
def aput : List (κ × Value) → κ → Value → List (κ × Value)
 | [], k, v => [(k, v)]
 | p :: l, k, v => if k = p.1 then (p.1, v) :: l else p :: aput l k v
theorem alook_aput (l : List (κ × Value)) (k j : κ) (v : Value) : alook (aput l k v) j = if j = k then some v else alook l j := by
 induction l with
 | nil => simp [aput, alook]
 | cons p l ih =>
  simp only [aput]
  split
  ·rename_i h; subst h
   simp only [alook]
   split <;> rfl
  ·rename_i h
   simp only [alook, ih]
   split
   ·rename_i h1
    split
    ·rename_i h2; exact absurd (h2.symm.trans h1) h
    ·rfl
   ·rfl
structure KeyOk (P : Program) (K : TypeId) (enc : κ → Value) (desc : TypeDesc) : Prop where
 und : P.underlying K = some desc
 same : ∀ a b, Instr.sameNow desc (enc a) (enc b) = some (decide (a = b))
 bits : ∀ a, Instr.sameBits 10000 (enc a) (enc a) = true
 check : ∀ e a w, (Instr.checkKey e 10000 K (enc a)).run P w = .ok () w
end
theorem ba_beq (a b : ByteArray) : (a == b) = decide (a = b) := by
 cases a with | mk x => cases b with | mk y =>
 show (x == y) = _
 by_cases h : x = y
 ·subst h; simp
 ·simp [h]
theorem check_string {P : Program} {K : TypeId} (h : P.underlying K = some .string) (e : Bool) (a : ByteArray) (w : World) (n : Nat) : (Instr.checkKey e (n + 1) K (.string a)).run P w = .ok () w := by
 unfold Instr.checkKey
 simp [run_underlying h]
theorem keyOk_string {P : Program} {K : TypeId} (h : P.underlying K = some .string) : KeyOk P K Value.string .string where
 und := h
 same := fun a b => by simp [Instr.sameNow, ba_beq]
 bits := fun a => by simp [Instr.sameBits, ba_beq]
 check := fun e a w => check_string h e a w 9999
section
variable {κ : Type}
def AMap (enc : κ → Value) (w : World) (b : Nat) (L : List (κ × Value)) : Prop :=
 ∃ es clock, w.heap[b]? = some (.map es clock) ∧ es.toList.map (fun e => (e.key, e.val)) = L.map (fun p => (enc p.1, p.2))
variable {P : Program} {K T E : TypeId} {enc : κ → Value} {desc : TypeDesc} {w : World} {b : Nat} {L : List (κ × Value)}
theorem AMap.lt (h : AMap enc w b L) : b < w.heap.size := by
 obtain ⟨es, c, h, _⟩ := h
 exact (Array.getElem?_eq_some_iff.1 h).1
theorem AMap.made (w : World) (enc : κ → Value) : AMap enc (w.alloc (.map #[] 0)) w.heap.size [] := ⟨#[], 0, heap_alloc_new w _, rfl⟩
theorem AMap.kept {w' : World} (h : AMap enc w b L) (hb : w'.heap[b]? = w.heap[b]?) : AMap enc w' b L := by
 obtain ⟨es, c, h, r⟩ := h
 exact ⟨es, c, hb.trans h, r⟩
theorem AMap.below {w' : World} {B : Nat} (h : AMap enc w b L) (hg : Below B w w') (hb : b < B) : AMap enc w' b L := h.kept (hg.block b hb)
variable [DecidableEq κ]
def apos : List (κ × Value) → κ → Option Nat
 | [], _ => none
 | p :: l, k => if k = p.1 then some 0 else (apos l k).map (· + 1)
theorem findNow_enc (H : KeyOk P K enc desc) (k : κ) : ∀ (es : List MapEntry) (L : List (κ × Value)) (i : Nat), es.map (fun e => (e.key, e.val)) = L.map (fun p => (enc p.1, p.2)) →
  Instr.findNow desc (enc k) es i = some ((apos L k).bind fun j => (alook L k).map fun v => (i + j, v))
 | [], [], i, _ => by simp [Instr.findNow, apos]
 | [], p :: L, i, h => by simp at h
 | e :: es, [], i, h => by simp at h
 | e :: es, p :: L, i, h => by
  simp only [List.map_cons, List.cons.injEq, Prod.mk.injEq] at h
  obtain ⟨⟨h1, h2⟩, h3⟩ := h
  have ih := findNow_enc H k es L (i + 1) h3
  simp only [Instr.findNow, h1, H.same]
  by_cases hk : k = p.1
  ·simp [hk, apos, alook, h2]
  ·simp only [hk, decide_false]
   rw [ih]
   simp only [apos, alook, hk, if_false, Option.some.injEq]
   cases apos L k with
   | none => rfl
   | some j => simp [Nat.add_comm 1 j, Nat.add_assoc, Nat.add_left_comm]
theorem apos_none {L : List (κ × Value)} {k : κ} : apos L k = none ↔ alook L k = none := by
 induction L with
 | nil => simp [apos, alook]
 | cons p l ih => simp only [apos, alook]; split <;> simp [ih]
theorem apos_some {L : List (κ × Value)} {k : κ} {j : Nat} (h : apos L k = some j) : ∃ v, alook L k = some v ∧ L[j]? = some (k, v) := by
 induction L generalizing j with
 | nil => simp [apos] at h
 | cons p l ih =>
  simp only [apos] at h
  split at h
  ·rename_i hk; subst hk
   simp at h; subst h
   exact ⟨p.2, by simp [alook], by simp⟩
  ·rename_i hk
   cases hj : apos l k with
   | none => rw [hj] at h; simp at h
   | some i =>
    rw [hj] at h; simp at h; subst h
    obtain ⟨v, h1, h2⟩ := ih hj
    exact ⟨v, by simp [alook, hk, h1], by simpa using h2⟩
theorem findKey_run (H : KeyOk P K enc desc) (k : κ) {es : Array MapEntry} (he : es.toList.map (fun e => (e.key, e.val)) = L.map (fun p => (enc p.1, p.2))) (w : World) :
  (Instr.findKey K (enc k) es.toList).run P w = .ok ((apos L k).bind fun j => (alook L k).map fun v => (j, v)) w := by
 unfold Instr.findKey
 simp only [Sem.run_bind, run_underlying H.und, Result.andThen_ok, findNow_enc H k es.toList L 0 he]
 simp
theorem AMap.lookup (h : AMap enc w b L) (H : KeyOk P K enc desc) (hT : P.underlying T = some (.map K E)) {z : Value} (hz : (zeroValue E).run P w = .ok z w) (k : κ) (ok : Bool) :
  (Instr.lookup T (.map (some b)) (enc k) ok).run P w = .ok (if ok then .tuple #[(alook L k).getD z, .bool (alook L k).isSome] else (alook L k).getD z) w := by
 obtain ⟨es, c, hb, he⟩ := h
 have hg : (getObj b).run P w = .ok (.map es c) w := by simp [getObj, Sem.run, hb]
 unfold Instr.lookup
 simp only [Sem.run_bind, run_underlying hT, Result.andThen_ok, hg, Sem.run_pure, H.check, findKey_run H k he]
 cases hp : apos L k with
 | none =>
  have hl := apos_none.1 hp
  simp [hl, hz]
 | some j =>
  obtain ⟨v, hv, _⟩ := apos_some hp
  simp [hv]
theorem aput_none {L : List (κ × Value)} {k : κ} (h : alook L k = none) (v : Value) : aput L k v = L ++ [(k, v)] := by
 induction L with
 | nil => rfl
 | cons p l ih =>
  simp only [alook] at h
  split at h
  ·cases h
  ·rename_i hk; simp [aput, hk, ih h]
theorem aput_some {L : List (κ × Value)} {k : κ} {j : Nat} (h : apos L k = some j) (v : Value) : aput L k v = L.modify j fun p => (p.1, v) := by
 induction L generalizing j with
 | nil => simp [apos] at h
 | cons p l ih =>
  simp only [apos] at h
  split at h
  ·rename_i hk
   simp at h; subst h
   simp [aput, hk]
  ·rename_i hk
   cases hj : apos l k with
   | none => rw [hj] at h; simp at h
   | some i =>
    rw [hj] at h; simp at h; subst h
    simp [aput, hk, ih hj]
theorem set_self {h : Array Obj} {b : Nat} (hlt : b < h.size) (o : Obj) : (h.setIfInBounds b o)[b]? = some o := by simp [hlt]
theorem grownBy_setBlock (w : World) (b : Nat) (o : Obj) : w.grownBy { w with heap := w.heap.setIfInBounds b o } (some b) :=
 ⟨rfl, rfl, rfl, by simp, fun i hi hne => by
  show (w.heap.setIfInBounds b o)[i]? = w.heap[i]?
  rw [Array.getElem?_setIfInBounds_ne (by intro e; exact hne (by rw [e]))]⟩
theorem AMap.update (h : AMap enc w b L) (H : KeyOk P K enc desc) (hT : P.underlying T = some (.map K E)) (k : κ) (v : Value) :
  ∃ w', (Instr.mapUpdate T (.map (some b)) (enc k) v).run P w = .ok () w' ∧ AMap enc w' b (aput L k v) ∧ w.grownBy w' (some b) := by
 obtain ⟨es, c, hb, he⟩ := h
 have hlt := (Array.getElem?_eq_some_iff.1 hb).1
 have hg : (getObj b).run P w = .ok (.map es c) w := by simp [getObj, Sem.run, hb]
 have hs : ∀ o, (setObj b o).run P w = .ok () { w with heap := w.heap.setIfInBounds b o } := fun o => by simp [setObj, Sem.run, hb]
 cases hp : apos L k with
 | none =>
  refine ⟨{ w with heap := w.heap.setIfInBounds b (.map (es.push { key := enc k, val := v, born := c }) (c + 1)) }, ?_, ⟨_, _, set_self hlt _, ?_⟩, grownBy_setBlock _ _ _⟩
  ·unfold Instr.mapUpdate
   simp only [Sem.run_bind, run_underlying hT, Result.andThen_ok, hg, H.check, findKey_run H k he, hp, Option.bind_none, hs]
  ·rw [aput_none (apos_none.1 hp)]; simp [he]
 | some j =>
  obtain ⟨v0, hv, hj⟩ := apos_some hp
  have hlen : es.toList.length = L.length := by have := congrArg List.length he; simpa using this
  have hjl : j < L.length := (List.getElem?_eq_some_iff.1 hj).1
  have hje : (es.toList.map fun e => (e.key, e.val))[j]? = some (enc k, v0) := by rw [he]; simp [hj]
  have hkey : ((es[j]?).map (·.key)) = some (enc k) := by
   rw [List.getElem?_map] at hje
   rw [← Array.getElem?_toList]
   cases hx : es.toList[j]? with
   | none => rw [hx] at hje; simp at hje
   | some x => rw [hx] at hje; simp at hje; simp [hje.1]
  refine ⟨{ w with heap := w.heap.setIfInBounds b (.map (es.modify j fun e => { e with key := enc k, val := v }) c) }, ?_, ⟨_, _, set_self hlt _, ?_⟩, grownBy_setBlock _ _ _⟩
  ·unfold Instr.mapUpdate
   simp only [Sem.run_bind, run_underlying hT, Result.andThen_ok, hg, H.check, findKey_run H k he, hp, hv, Option.bind_some, Option.map_some, hkey, Option.getD_some]
   unfold Instr.keyThatStays
   simp only [H.bits, if_true, Sem.run_pure, Result.andThen_ok, hs]
  ·rw [aput_some hp, Array.toList_modify]
   apply List.ext_getElem?
   intro i
   have hi := congrArg (fun l => l[i]?) he
   simp only [List.getElem?_map] at hi
   simp only [List.getElem?_map, List.getElem?_modify]
   by_cases hij : j = i
   ·subst hij
    rw [hj] at hi ⊢
    cases hx : es.toList[j]? with
    | none => rw [hx] at hi; simp at hi
    | some x => simp
   ·cases hx : es.toList[i]? with
    | none => rw [hx] at hi; simp [hij]; cases hy : L[i]? with
     | none => rfl
     | some y => rw [hy] at hi; simp at hi
    | some x => rw [hx] at hi; simp [hij]; cases hy : L[i]? with
     | none => rw [hy] at hi; simp at hi
     | some y => rw [hy] at hi; simpa using hi
end
section
variable {κ : Type} [DecidableEq κ] {P : Program} {K T E : TypeId} {enc : κ → Value} {desc : TypeDesc} {w : World} {b : Nat} {L : List (κ × Value)}
variable {ops : Array Oper} {rest : List Oper} {o : Oper} {a : Act} {Q : Exit → Act → World → Prop}
theorem wpList_update_amap (hg : o.guard = none) (m x v : Operand) (hop : o.op = Op.mapUpdate T m x v) (H : KeyOk P K enc desc) (hT : P.underlying T = some (.map K E))
  (h : AMap enc w b L) (hm : a.eval m = .map (some b)) (k : κ) (u : Value) (hx : a.eval x = enc k) (hv : a.eval v = u)
  (hK : ∀ w', AMap enc w' b (aput L k u) → w.grownBy w' (some b) → wpList P ops Q rest (a.put o.dst undef) w') : wpList P ops Q (o :: rest) a w := by
 refine wpList_plain hg fun K' hK' => ?_
 obtain ⟨w', hrun, r1, r2⟩ := h.update H hT k u
 unfold Oper.wp
 simp [execOp, hop, hm, hx, hv, hrun, Result.andThen]
 exact hK' _ _ (hK w' r1 r2)
end
end Go.Proofs.YtkplkgdfphbldaaGreat
