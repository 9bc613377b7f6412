/- BoxedCounts: the region that makes the let: an invariant to which no order matters. -/
import Derived.Test.YtkplkgdfphbldaaGreatHJbn
namespace Go.Proofs.YtkplkgdfphbldaaGreat
open Go.RowKit
open Go.Lib (hid)
set_option linter.unusedVariables false
set_option linter.unusedSimpArgs false
set_option linter.unnecessarySimpa false
set_option maxRecDepth 100000
def opn : List Bool → Nat
 | [] => 0
 | b :: l => (if b then 0 else 1) + opn l
theorem opn_set : ∀ (l : List Bool) (i : Nat), l[i]? = some false → opn (l.set i true) + 1 = opn l
 | [], i, h => by simp at h
 | b :: l, 0, h => by
  obtain rfl : b = false := by simpa using h
  simp [opn]
  omega
 | b :: l, i + 1, h => by
  have := opn_set l i (by simpa using h)
  simp only [List.set_cons_succ, opn]
  omega
theorem opn_zero : ∀ (l : List Bool) (i : Nat), opn l = 0 → i < l.length → l[i]? = some true
 | [], i, _, h => by simp at h
 | b :: l, i, h, hi => by
  cases b with
  | false => simp [opn] at h
  | true =>
   cases i with
   | zero => rfl
   | succ i => simpa using opn_zero l i (by simpa [opn] using h) (by simpa using hi)
theorem opn_false : ∀ n, opn (List.replicate n false) = n
 | 0 => rfl
 | n + 1 => by
  rw [List.replicate_succ, opn, opn_false n]
  simp
  omega
section
variable {P : Program} {md : Region.Mode} {ops : Array Oper} {Q : Exit → Act → World → Prop}
theorem wpAny_inv (I : (Nat → Bool) → Act → World → Prop) (hac : ∀ (j : Nat) (o : Oper), ops[j]? = some o → ∀ e ∈ o.after, e.on < j)
  (hstep : ∀ (L : Nat → Bool) (a : Act) (w : World) (j : Nat) (o : Oper), ops[j]? = some o → L j = false → (∀ e ∈ o.after, Region.binds md e = true → L e.on = true) → I L a w → wpOp P ops Q j (fun a' w' => I (fun k => if k = j then true else L k) a' w') a w)
  (hdone : ∀ (L : Nat → Bool) (a : Act) (w : World), (∀ j, j < ops.size → L j = true) → I L a w → Q .normal a w) :
  ∀ (fuel : Nat) (listed : Array Bool) (a : Act) (w : World), listed.size = ops.size → opn listed.toList ≤ fuel → I (fun k => listed.getD k false) a w → wpAny P md ops Q fuel listed a w := by
 intro fuel
 induction fuel with
 | zero =>
  intro listed a w hs hf hI
  have hall : ∀ j, j < ops.size → listed[j]? = some true := fun j hj => by
   have := opn_zero listed.toList j (by omega) (by simpa [hs] using hj)
   simpa using this
  refine ⟨?_, hdone _ a w (fun j hj => by simp [Array.getD_eq_getD_getElem?, hall j hj]) hI⟩
  cases hr : Region.ready md ops listed with
  | nil => rfl
  | cons j l =>
   obtain ⟨h0, o, ho, _⟩ := mem_ready.1 (by rw [hr]; exact List.mem_cons_self)
   have := hall j (Array.getElem?_eq_some_iff.1 ho).1
   simp [Array.getD_eq_getD_getElem?, this] at h0
 | succ fuel ih =>
  intro listed a w hs hf hI
  refine ⟨fun hr => hdone _ a w (fun j => ?_) hI, fun j hj => ?_⟩
  ·induction j using Nat.strongRecOn with
   | _ j ihj =>
    intro hjs
    by_cases h : listed.getD j true = false
    ·have hm : j ∈ Region.ready md ops listed := mem_ready.2 ⟨h, ops[j], Array.getElem?_eq_getElem hjs, fun e he _ => ihj e.on (hac j _ (Array.getElem?_eq_getElem hjs) e he) (Nat.lt_trans (hac j _ (Array.getElem?_eq_getElem hjs) e he) hjs)⟩
     rw [hr] at hm
     cases hm
    ·have hl : j < listed.size := by omega
     have h2 : listed.getD j true = true := by simpa using h
     simp only [Array.getD_eq_getD_getElem?, Array.getElem?_eq_getElem hl, Option.getD_some] at h2 ⊢
     exact h2
  ·obtain ⟨h0, o, ho, hd⟩ := mem_ready.1 hj
   have hl : j < listed.size := by rw [hs]; exact (Array.getElem?_eq_some_iff.1 ho).1
   have hjf : listed[j]? = some false := by
    simp only [Array.getD_eq_getD_getElem?, Array.getElem?_eq_getElem hl, Option.getD_some] at h0
    rw [Array.getElem?_eq_getElem hl, h0]
   refine wpOp_mono (fun a' w' h => ih _ a' w' (by simpa using hs) ?_ ?_) (hstep _ a w j o ho (by simp [Array.getD_eq_getD_getElem?, hjf]) hd hI)
   ·have := opn_set listed.toList j (by simpa using hjf)
    rw [Array.toList_setIfInBounds]
    omega
   ·have e : (fun k => (listed.setIfInBounds j true).getD k false) = fun k => if k = j then true else listed.getD k false := by
     funext k
     by_cases hk : k = j
     ·subst hk
      rw [if_pos rfl]
      simp [Array.getD_eq_getD_getElem?, Array.getElem?_setIfInBounds, hl]
     ·rw [if_neg hk]
      exact getD_set_ne false (Ne.symm hk)
    rw [e]
    exact h
theorem acyc_of (h : (List.range ops.size).all (fun j => ((ops[j]?).map fun o => o.after.all fun e => decide (e.on < j)).getD true) = true) (j : Nat) (o : Oper) (ho : ops[j]? = some o) (e : Edge) (he : e ∈ o.after) : e.on < j := by
 have := List.all_eq_true.1 h j (List.mem_range.2 (Array.getElem?_eq_some_iff.1 ho).1)
 rw [ho] at this
 simp only [Option.map_some, Option.getD_some] at this
 exact of_decide_eq_true (Array.all_eq_true_iff_forall_mem.1 this e he)
end
namespace Ew
open Rn
theorem old_bel {w w' : World} {p : Nat} {o : Obj} (h : w.heap[p]? = some o) (hb : Below w.heap.size w w') : w'.heap[p]? = some o := (hb.block _ (Array.getElem?_eq_some_iff.1 h).1).trans h
def P0 (u : Value) (w : World) : Prop := ∃ p, u = .slice (some ⟨p, 0, none⟩) 2 2 ∧ w.heap[p]? = some (.cells #[.string ⟨#[117, 112]⟩, .string ⟨#[103, 101, 116]⟩] 9 (0, 0))
theorem P0.bel {u : Value} {w w' : World} (h : P0  u w) (hb : Below w.heap.size w w') : P0  u w' := by
 obtain ⟨p, e, h0⟩ := h
 exact ⟨p, e, old_bel h0 hb⟩
def P2 (kvm : Value) (u : Value) (w : World) : Prop := ∃ p, u = .slice (some ⟨p, 0, none⟩) 1 1 ∧ w.heap[p]? = some (.cells #[.int .i64 2, .string ⟨#[120]⟩, .slice none 0 0, .int .i64 0, .int .i64 0, .string ⟨#[]⟩, .slice none 0 0, kvm] 28 (0, 0))
theorem P2.bel {kvm : Value} {u : Value} {w w' : World} (h : P2 kvm u w) (hb : Below w.heap.size w w') : P2 kvm u w' := by
 obtain ⟨p, e, h0⟩ := h
 exact ⟨p, e, old_bel h0 hb⟩
def P3 (kvm : Value) (u : Value) (w : World) : Prop := ∃ p, u = .agg #[.int .i64 5, .string ⟨#[]⟩, .slice none 0 0, .int .i64 0, .int .i64 0, .string ⟨#[]⟩, .slice none 0 0, .slice (some ⟨p, 0, none⟩) 1 1] ∧ w.heap[p]? = some (.cells #[.int .i64 2, .string ⟨#[120]⟩, .slice none 0 0, .int .i64 0, .int .i64 0, .string ⟨#[]⟩, .slice none 0 0, kvm] 28 (0, 0))
theorem P3.bel {kvm : Value} {u : Value} {w w' : World} (h : P3 kvm u w) (hb : Below w.heap.size w w') : P3 kvm u w' := by
 obtain ⟨p, e, h0⟩ := h
 exact ⟨p, e, old_bel h0 hb⟩
def P6 (u : Value) (w : World) : Prop := ∃ p, u = .slice (some ⟨p, 0, none⟩) 1 1 ∧ w.heap[p]? = some (.cells #[.int .i64 1, .string ⟨#[120]⟩, .slice none 0 0, .int .i64 0, .int .i64 0, .string ⟨#[]⟩, .slice none 0 0, .slice none 0 0] 28 (0, 0))
theorem P6.bel {u : Value} {w w' : World} (h : P6  u w) (hb : Below w.heap.size w w') : P6  u w' := by
 obtain ⟨p, e, h0⟩ := h
 exact ⟨p, e, old_bel h0 hb⟩
def P7 (u : Value) (w : World) : Prop := ∃ p, u = .agg #[.int .i64 5, .string ⟨#[]⟩, .slice none 0 0, .int .i64 0, .int .i64 0, .string ⟨#[]⟩, .slice none 0 0, .slice (some ⟨p, 0, none⟩) 1 1] ∧ w.heap[p]? = some (.cells #[.int .i64 1, .string ⟨#[120]⟩, .slice none 0 0, .int .i64 0, .int .i64 0, .string ⟨#[]⟩, .slice none 0 0, .slice none 0 0] 28 (0, 0))
theorem P7.bel {u : Value} {w w' : World} (h : P7  u w) (hb : Below w.heap.size w w') : P7  u w' := by
 obtain ⟨p, e, h0⟩ := h
 exact ⟨p, e, old_bel h0 hb⟩
def P9 (kvm kv2 : Value) (u : Value) (w : World) : Prop := ∃ p b c, u = .slice (some ⟨p, 0, none⟩) 3 3 ∧ w.heap[p]? = some (.cells #[.int .i64 5, .string ⟨#[]⟩, .slice none 0 0, .int .i64 0, .int .i64 0, .string ⟨#[]⟩, .slice none 0 0, .slice (some ⟨b, 0, none⟩) 1 1, .int .i64 5, .string ⟨#[]⟩, .slice none 0 0, .int .i64 0, .int .i64 0, .string ⟨#[]⟩, .slice none 0 0, .slice (some ⟨c, 0, none⟩) 1 1, .int .i64 4, .string ⟨#[]⟩, .slice none 0 0, .int .i64 0, .int .i64 0, .string ⟨#[]⟩, .slice none 0 0, kv2] 28 (0, 0)) ∧ w.heap[b]? = some (.cells #[.int .i64 2, .string ⟨#[120]⟩, .slice none 0 0, .int .i64 0, .int .i64 0, .string ⟨#[]⟩, .slice none 0 0, kvm] 28 (0, 0)) ∧ w.heap[c]? = some (.cells #[.int .i64 1, .string ⟨#[120]⟩, .slice none 0 0, .int .i64 0, .int .i64 0, .string ⟨#[]⟩, .slice none 0 0, .slice none 0 0] 28 (0, 0))
theorem P9.bel {kvm kv2 : Value} {u : Value} {w w' : World} (h : P9 kvm kv2 u w) (hb : Below w.heap.size w w') : P9 kvm kv2 u w' := by
 obtain ⟨p, b, c, e, h0, h1, h2⟩ := h
 exact ⟨p, b, c, e, old_bel h0 hb, old_bel h1 hb, old_bel h2 hb⟩
def P10 (kvm kv2 : Value) (u : Value) (w : World) : Prop := ∃ a d b c, u = .agg #[.int .i64 8, .string ⟨#[]⟩, .slice (some ⟨a, 0, none⟩) 2 2, .int .i64 0, .int .i64 0, .string ⟨#[]⟩, .slice none 0 0, .slice (some ⟨d, 0, none⟩) 3 3] ∧ w.heap[a]? = some (.cells #[.string ⟨#[117, 112]⟩, .string ⟨#[103, 101, 116]⟩] 9 (0, 0)) ∧ w.heap[d]? = some (.cells #[.int .i64 5, .string ⟨#[]⟩, .slice none 0 0, .int .i64 0, .int .i64 0, .string ⟨#[]⟩, .slice none 0 0, .slice (some ⟨b, 0, none⟩) 1 1, .int .i64 5, .string ⟨#[]⟩, .slice none 0 0, .int .i64 0, .int .i64 0, .string ⟨#[]⟩, .slice none 0 0, .slice (some ⟨c, 0, none⟩) 1 1, .int .i64 4, .string ⟨#[]⟩, .slice none 0 0, .int .i64 0, .int .i64 0, .string ⟨#[]⟩, .slice none 0 0, kv2] 28 (0, 0)) ∧ w.heap[b]? = some (.cells #[.int .i64 2, .string ⟨#[120]⟩, .slice none 0 0, .int .i64 0, .int .i64 0, .string ⟨#[]⟩, .slice none 0 0, kvm] 28 (0, 0)) ∧ w.heap[c]? = some (.cells #[.int .i64 1, .string ⟨#[120]⟩, .slice none 0 0, .int .i64 0, .int .i64 0, .string ⟨#[]⟩, .slice none 0 0, .slice none 0 0] 28 (0, 0))
theorem P10.bel {kvm kv2 : Value} {u : Value} {w w' : World} (h : P10 kvm kv2 u w) (hb : Below w.heap.size w w') : P10 kvm kv2 u w' := by
 obtain ⟨a, d, b, c, e, h0, h1, h2, h3⟩ := h
 exact ⟨a, d, b, c, e, old_bel h0 hb, old_bel h1 hb, old_bel h2 hb, old_bel h3 hb⟩
def P11 (B : Nat) (u : Value) (w : World) : Prop := ∃ g, u = .pointer (some ⟨g, 0, none⟩) ∧ B ≤ g ∧ w.heap[g]? = some (.cells #[.int .i64 0, .string ⟨#[]⟩, .slice none 0 0, .int .i64 0, .int .i64 0, .string ⟨#[]⟩, .slice none 0 0, .slice none 0 0] 28 (0, 0))
theorem P11.bel {B : Nat} {u : Value} {w w' : World} (h : P11 B u w) (hb : Below w.heap.size w w') : P11 B u w' := by
 obtain ⟨g, h1, h2, h3⟩ := h
 exact ⟨g, h1, h2, old_bel h3 hb⟩
structure F11 (w2 wr : World) (n : Nat) (kvm kv2 : Value) (L : Nat → Bool) (w : World) (u9 u65 u66 u67 u68 u69 u70 u71 u72 u73 u74 u75 : Value) : Prop where
 below : Below wr.heap.size wr w
 all : L 12 = true → ∀ k, k < 12 → L k = true
 f12 : L 12 = true → ∃ g a d, u9 = .pointer (some ⟨g, 0, none⟩) ∧ VarX w2 w g (letX n a d)
 f0 : L 12 = false → L 0 = true → P0 u65 w
 f1 : L 12 = false → L 1 = true → u66 = .agg #[.int .i64 2, .string ⟨#[120]⟩, .slice none 0 0, .int .i64 0, .int .i64 0, .string ⟨#[]⟩, .slice none 0 0, kvm]
 f2 : L 12 = false → L 2 = true → P2 kvm u67 w
 f3 : L 12 = false → L 3 = true → P3 kvm u68 w
 f4 : L 12 = false → L 4 = true → u69 = .func (Fn.func 21) #[] #[]
 f5 : L 12 = false → L 5 = true → u70 = .agg #[.int .i64 1, .string ⟨#[120]⟩, .slice none 0 0, .int .i64 0, .int .i64 0, .string ⟨#[]⟩, .slice none 0 0, .slice none 0 0]
 f6 : L 12 = false → L 6 = true → P6 u71 w
 f7 : L 12 = false → L 7 = true → P7 u72 w
 f8 : L 12 = false → L 8 = true → u73 = .agg #[.int .i64 4, .string ⟨#[]⟩, .slice none 0 0, .int .i64 0, .int .i64 0, .string ⟨#[]⟩, .slice none 0 0, kv2]
 f9 : L 12 = false → L 9 = true → P9 kvm kv2 u74 w
 f10 : L 12 = false → L 10 = true → P10 kvm kv2 u75 w
 f11 : L 12 = false → L 11 = true → P11 wr.heap.size u9 w
def regionC (n : Nat) : Code → Option Code
 | .region i a b => if i = n then some (.region i a b) else none
 | .seq a b => match regionC n a with
  | some c => some c
  | none => regionC n b
 | .block _ c => regionC n c
 | .scope c => regionC n c
 | .cond _ a b => match regionC n a with
  | some c => some c
  | none => regionC n b
 | .loop c => regionC n c
 | _ => none
noncomputable def bc11 : Code := (Tryz.f8.body.bind (regionC 11)).getD .skip
theorem ltrue {L : Nat → Bool} {j k : Nat} (h : k ≠ j) (h2 : (if k = j then true else L k) = true) : L k = true := by rwa [if_neg h] at h2
theorem store_var {w0 W1 wr w : World} {n gm gb g a d b c : Nat} {kvm kv2 : Value} (hm : VarX w0 wr gm (noX 2 Bc.sx [Ex.primE sPlus [Ex.refE Bc.sx, numE 1]] kvm)) (hbd : VarX W1 wr gb (noX 4 ⟨#[]⟩ (Bc.bodyL n) kv2)) (hb : Below wr.heap.size wr w) (hgl : wr.heap.size ≤ g) (hg : w.heap[g]? = some (.cells #[.int .i64 0, .string ⟨#[]⟩, .slice none 0 0, .int .i64 0, .int .i64 0, .string ⟨#[]⟩, .slice none 0 0, .slice none 0 0] 28 (0, 0))) (ha : w.heap[a]? = some (.cells #[.string ⟨#[117, 112]⟩, .string ⟨#[103, 101, 116]⟩] 9 (0, 0))) (hd : w.heap[d]? = some (.cells #[.int .i64 5, .string ⟨#[]⟩, .slice none 0 0, .int .i64 0, .int .i64 0, .string ⟨#[]⟩, .slice none 0 0, .slice (some ⟨b, 0, none⟩) 1 1, .int .i64 5, .string ⟨#[]⟩, .slice none 0 0, .int .i64 0, .int .i64 0, .string ⟨#[]⟩, .slice none 0 0, .slice (some ⟨c, 0, none⟩) 1 1, .int .i64 4, .string ⟨#[]⟩, .slice none 0 0, .int .i64 0, .int .i64 0, .string ⟨#[]⟩, .slice none 0 0, kv2] 28 (0, 0))) (hbb : w.heap[b]? = some (.cells #[.int .i64 2, .string ⟨#[120]⟩, .slice none 0 0, .int .i64 0, .int .i64 0, .string ⟨#[]⟩, .slice none 0 0, kvm] 28 (0, 0))) (hc : w.heap[c]? = some (.cells #[.int .i64 1, .string ⟨#[120]⟩, .slice none 0 0, .int .i64 0, .int .i64 0, .string ⟨#[]⟩, .slice none 0 0, .slice none 0 0] 28 (0, 0))) :
  VarX w0 (put8 w g (.int .i64 8) (.string ⟨#[]⟩) (.slice (some ⟨a, 0, none⟩) 2 2) (.int .i64 0) (.int .i64 0) (.string ⟨#[]⟩) (.slice none 0 0) (.slice (some ⟨d, 0, none⟩) 3 3)) g (letX n a d) := by
 have hk := put8_kp (g := g) (w := w) (.int .i64 8) (.string ⟨#[]⟩) (.slice (some ⟨a, 0, none⟩) 2 2) (.int .i64 0) (.int .i64 0) (.string ⟨#[]⟩) (.slice none 0 0) (.slice (some ⟨d, 0, none⟩) 3 3)
 have hbl := below_put8 hb hgl (.int .i64 8) (.string ⟨#[]⟩) (.slice (some ⟨a, 0, none⟩) 2 2) (.int .i64 0) (.int .i64 0) (.string ⟨#[]⟩) (.slice none 0 0) (.slice (some ⟨d, 0, none⟩) 3 3)
 have hr := eight_set w g _ _ _ _ _ _ _ _ _ (.int .i64 8) (.string ⟨#[]⟩) (.slice (some ⟨a, 0, none⟩) 2 2) (.int .i64 0) (.int .i64 0) (.string ⟨#[]⟩) (.slice none 0 0) (.slice (some ⟨d, 0, none⟩) 3 3) hg
 have na : a ≠ g := fun e => by rw [e, hg] at ha; simp at ha
 have nd : d ≠ g := fun e => by rw [e, hg] at hd; simp at hd
 have nb : b ≠ g := fun e => by rw [e, hg] at hbb; simp at hbb
 have nc : c ≠ g := fun e => by rw [e, hg] at hc; simp at hc
 exact let_var hm hbd hbl hr ((hk.2 d nd).trans hd) ((hk.2 a na).trans ha) ((hk.2 b nb).trans hbb) ((hk.2 c nc).trans hc)
set_option maxHeartbeats 64000000 in
set_option maxRecDepth 1000000 in
theorem reg11 {w2 W1 wr : World} {n gm gb : Nat} {ka kb : Option Addr} {kn kc bn bc : Nat} (hm : VarX w2 wr gm (noX 2 Bc.sx [Ex.primE sPlus [Ex.refE Bc.sx, numE 1]] (.slice ka kn kc))) (hbd : VarX W1 wr gb (noX 4 ⟨#[]⟩ (Bc.bodyL n) (.slice kb bn bc))) {c0 c1 c2 c3 c4 c8 c10 c11 c12 c13 c14 c15 c16 c17 c18 c19 c20 c21 c22 c23 c24 c25 c26 c27 c28 c29 c30 c31 c32 c33 c34 c35 c36 c37 c38 c39 c40 c41 c42 c43 c44 c45 c46 c47 c48 c49 c50 c51 c52 c53 c54 c55 c56 c57 c58 c59 c60 c61 c62 c63 c64 c76 c77 c78 c79 c80 c81 c82 c83 c84 c85 c86 c87 c88 c89 c90 c91 c92 c93 c94 c95 c96 c97 c98 c99 c100 c101 c102 c103 c104 c105 u9 u65 u66 u67 u68 u69 u70 u71 u72 u73 u74 u75 : Value} {Q : Exit → Act → World → Prop}
  (hQ : ∀ (u65 u66 u67 u68 u69 u70 u71 u72 u73 u74 u75 : Value) (g a d : Nat) (wx : World), VarX w2 wx g (letX n a d) → Q .normal ⟨List.toArray (c0 :: c1 :: c2 :: c3 :: c4 :: .func (Fn.func 21) #[] #[] :: .pointer (some ⟨gm, 0, none⟩) :: .pointer (some ⟨gb, 0, none⟩) :: c8 :: .pointer (some ⟨g, 0, none⟩) :: c10 :: c11 :: c12 :: c13 :: c14 :: c15 :: c16 :: c17 :: c18 :: c19 :: c20 :: c21 :: c22 :: c23 :: c24 :: c25 :: c26 :: c27 :: c28 :: c29 :: c30 :: c31 :: c32 :: c33 :: c34 :: c35 :: c36 :: c37 :: c38 :: c39 :: c40 :: c41 :: c42 :: c43 :: c44 :: c45 :: c46 :: c47 :: c48 :: c49 :: c50 :: c51 :: c52 :: c53 :: c54 :: c55 :: c56 :: c57 :: c58 :: c59 :: c60 :: c61 :: c62 :: c63 :: c64 :: u65 :: u66 :: u67 :: u68 :: u69 :: u70 :: u71 :: u72 :: u73 :: u74 :: u75 :: c76 :: c77 :: c78 :: c79 :: c80 :: c81 :: c82 :: c83 :: c84 :: c85 :: c86 :: c87 :: c88 :: c89 :: c90 :: c91 :: c92 :: c93 :: c94 :: c95 :: c96 :: c97 :: c98 :: c99 :: c100 :: c101 :: c102 :: c103 :: c104 :: c105 :: []), []⟩ wx) :
  Code.wp Tryz.prog bc11 Q ⟨List.toArray (c0 :: c1 :: c2 :: c3 :: c4 :: .func (Fn.func 21) #[] #[] :: .pointer (some ⟨gm, 0, none⟩) :: .pointer (some ⟨gb, 0, none⟩) :: c8 :: u9 :: c10 :: c11 :: c12 :: c13 :: c14 :: c15 :: c16 :: c17 :: c18 :: c19 :: c20 :: c21 :: c22 :: c23 :: c24 :: c25 :: c26 :: c27 :: c28 :: c29 :: c30 :: c31 :: c32 :: c33 :: c34 :: c35 :: c36 :: c37 :: c38 :: c39 :: c40 :: c41 :: c42 :: c43 :: c44 :: c45 :: c46 :: c47 :: c48 :: c49 :: c50 :: c51 :: c52 :: c53 :: c54 :: c55 :: c56 :: c57 :: c58 :: c59 :: c60 :: c61 :: c62 :: c63 :: c64 :: u65 :: u66 :: u67 :: u68 :: u69 :: u70 :: u71 :: u72 :: u73 :: u74 :: u75 :: c76 :: c77 :: c78 :: c79 :: c80 :: c81 :: c82 :: c83 :: c84 :: c85 :: c86 :: c87 :: c88 :: c89 :: c90 :: c91 :: c92 :: c93 :: c94 :: c95 :: c96 :: c97 :: c98 :: c99 :: c100 :: c101 :: c102 :: c103 :: c104 :: c105 :: []), []⟩ wr := by
 unfold bc11
 conv => arg 2; whnf
 refine wp_region_any (by rfl) (wpAny_inv (fun L a w => ∃ u9 u65 u66 u67 u68 u69 u70 u71 u72 u73 u74 u75 : Value, F11 w2 wr n (.slice ka kn kc) (.slice kb bn bc) L w u9 u65 u66 u67 u68 u69 u70 u71 u72 u73 u74 u75 ∧ a = ⟨List.toArray (c0 :: c1 :: c2 :: c3 :: c4 :: .func (Fn.func 21) #[] #[] :: .pointer (some ⟨gm, 0, none⟩) :: .pointer (some ⟨gb, 0, none⟩) :: c8 :: u9 :: c10 :: c11 :: c12 :: c13 :: c14 :: c15 :: c16 :: c17 :: c18 :: c19 :: c20 :: c21 :: c22 :: c23 :: c24 :: c25 :: c26 :: c27 :: c28 :: c29 :: c30 :: c31 :: c32 :: c33 :: c34 :: c35 :: c36 :: c37 :: c38 :: c39 :: c40 :: c41 :: c42 :: c43 :: c44 :: c45 :: c46 :: c47 :: c48 :: c49 :: c50 :: c51 :: c52 :: c53 :: c54 :: c55 :: c56 :: c57 :: c58 :: c59 :: c60 :: c61 :: c62 :: c63 :: c64 :: u65 :: u66 :: u67 :: u68 :: u69 :: u70 :: u71 :: u72 :: u73 :: u74 :: u75 :: c76 :: c77 :: c78 :: c79 :: c80 :: c81 :: c82 :: c83 :: c84 :: c85 :: c86 :: c87 :: c88 :: c89 :: c90 :: c91 :: c92 :: c93 :: c94 :: c95 :: c96 :: c97 :: c98 :: c99 :: c100 :: c101 :: c102 :: c103 :: c104 :: c105 :: []), []⟩) ?_ ?_ ?_ _ _ _ _ (by simp) (by rw [Array.toList_replicate, opn_false]; exact Nat.le_refl _) ?_)
 ·exact acyc_of (by kernel_rfl)
 ·intro L a w j o ho hj hd hI
  obtain ⟨u9, u65, u66, u67, u68, u69, u70, u71, u72, u73, u74, u75, hF, rfl⟩ := hI
  have hj13 : j < 13 := (Array.getElem?_eq_some_iff.1 ho).1
  have h12 : j ≠ 12 → L 12 = false := fun hne => by
   cases h : L 12 with
   | false => rfl
   | true => exact absurd (hF.all h j (by omega)) (by rw [hj]; decide)
  obtain ⟨x0, x1, x2, x3, x4, x5, x6, x7, xl⟩ := (Row.of hm.blk).bel hF.below
  obtain ⟨o0, o1, o2, o3, o4, o5, o6, o7, ol⟩ := (Row.of hbd.blk).bel hF.below
  rcases (by omega : j = 0 ∨ j = 1 ∨ j = 2 ∨ j = 3 ∨ j = 4 ∨ j = 5 ∨ j = 6 ∨ j = 7 ∨ j = 8 ∨ j = 9 ∨ j = 10 ∨ j = 11 ∨ j = 12) with rfl | rfl | rfl | rfl | rfl | rfl | rfl | rfl | rfl | rfl | rfl | rfl | rfl
  ·obtain rfl := Option.some.inj (show some _ = some o from ho)
   have h12' := h12 (by decide)
   have HF := hid hF
   refine wpOp_step ho (fun K hK => ?_)
   have HK := hid hK
   clear hK ho hd hF h12 hj
   try simp only [List.getElem_toArray, List.getElem_cons_zero, List.getElem_cons_succ]
   go_simp
   have hF := HF.out
   have hba := (Below.refl w.heap.size w).alloc (Nat.le_refl _) (.cells #[.string ⟨#[117, 112]⟩, .string ⟨#[103, 101, 116]⟩] 9)
   exact HK.out _ _ ⟨_, _, _, _, _, _, _, _, _, _, _, _, ⟨hF.below.trans (hba.mono hF.below.size), (fun h => by rw [if_neg (by decide), h12'] at h; cases h), (fun h => by rw [if_neg (by decide), h12'] at h; cases h), (fun _ _ => ⟨w.heap.size, rfl, heap_alloc_new w _⟩), (fun _ h => hF.f1 h12' (ltrue (by decide) h)), (fun _ h => (hF.f2 h12' (ltrue (by decide) h)).bel hba), (fun _ h => (hF.f3 h12' (ltrue (by decide) h)).bel hba), (fun _ h => hF.f4 h12' (ltrue (by decide) h)), (fun _ h => hF.f5 h12' (ltrue (by decide) h)), (fun _ h => (hF.f6 h12' (ltrue (by decide) h)).bel hba), (fun _ h => (hF.f7 h12' (ltrue (by decide) h)).bel hba), (fun _ h => hF.f8 h12' (ltrue (by decide) h)), (fun _ h => (hF.f9 h12' (ltrue (by decide) h)).bel hba), (fun _ h => (hF.f10 h12' (ltrue (by decide) h)).bel hba), (fun _ h => (hF.f11 h12' (ltrue (by decide) h)).bel hba)⟩, rfl⟩
  ·obtain rfl := Option.some.inj (show some _ = some o from ho)
   have h12' := h12 (by decide)
   have HF := hid hF
   refine wpOp_step ho (fun K hK => ?_)
   have HK := hid hK
   clear hK ho hd hF h12 hj
   try simp only [List.getElem_toArray, List.getElem_cons_zero, List.getElem_cons_succ]
   go_simp
   have hF := HF.out
   exact HK.out _ _ ⟨_, _, _, _, _, _, _, _, _, _, _, _, ⟨hF.below, (fun h => by rw [if_neg (by decide), h12'] at h; cases h), (fun h => by rw [if_neg (by decide), h12'] at h; cases h), (fun _ h => hF.f0 h12' (ltrue (by decide) h)), (fun _ _ => rfl), (fun _ h => hF.f2 h12' (ltrue (by decide) h)), (fun _ h => hF.f3 h12' (ltrue (by decide) h)), (fun _ h => hF.f4 h12' (ltrue (by decide) h)), (fun _ h => hF.f5 h12' (ltrue (by decide) h)), (fun _ h => hF.f6 h12' (ltrue (by decide) h)), (fun _ h => hF.f7 h12' (ltrue (by decide) h)), (fun _ h => hF.f8 h12' (ltrue (by decide) h)), (fun _ h => hF.f9 h12' (ltrue (by decide) h)), (fun _ h => hF.f10 h12' (ltrue (by decide) h)), (fun _ h => hF.f11 h12' (ltrue (by decide) h))⟩, rfl⟩
  ·obtain rfl := Option.some.inj (show some _ = some o from ho)
   have d1 : L 1 = true := hd ⟨1, .data⟩ (by simp) rfl
   have h12' := h12 (by decide)
   have e66 := hF.f1 h12' d1
   subst e66
   have HF := hid hF
   refine wpOp_step ho (fun K hK => ?_)
   have HK := hid hK
   clear hK ho hd hF h12 hj
   try simp only [List.getElem_toArray, List.getElem_cons_zero, List.getElem_cons_succ]
   go_simp
   have hF := HF.out
   have hba := (Below.refl w.heap.size w).alloc (Nat.le_refl _) (.cells #[.int .i64 2, .string ⟨#[120]⟩, .slice none 0 0, .int .i64 0, .int .i64 0, .string ⟨#[]⟩, .slice none 0 0, .slice ka kn kc] 28)
   exact HK.out _ _ ⟨_, _, _, _, _, _, _, _, _, _, _, _, ⟨hF.below.trans (hba.mono hF.below.size), (fun h => by rw [if_neg (by decide), h12'] at h; cases h), (fun h => by rw [if_neg (by decide), h12'] at h; cases h), (fun _ h => (hF.f0 h12' (ltrue (by decide) h)).bel hba), (fun _ h => hF.f1 h12' (ltrue (by decide) h)), (fun _ _ => ⟨w.heap.size, rfl, heap_alloc_new w _⟩), (fun _ h => (hF.f3 h12' (ltrue (by decide) h)).bel hba), (fun _ h => hF.f4 h12' (ltrue (by decide) h)), (fun _ h => hF.f5 h12' (ltrue (by decide) h)), (fun _ h => (hF.f6 h12' (ltrue (by decide) h)).bel hba), (fun _ h => (hF.f7 h12' (ltrue (by decide) h)).bel hba), (fun _ h => hF.f8 h12' (ltrue (by decide) h)), (fun _ h => (hF.f9 h12' (ltrue (by decide) h)).bel hba), (fun _ h => (hF.f10 h12' (ltrue (by decide) h)).bel hba), (fun _ h => (hF.f11 h12' (ltrue (by decide) h)).bel hba)⟩, rfl⟩
  ·obtain rfl := Option.some.inj (show some _ = some o from ho)
   have d2 : L 2 = true := hd ⟨2, .data⟩ (by simp) rfl
   have h12' := h12 (by decide)
   obtain ⟨p1, e67, k1⟩ := hF.f2 h12' d2
   subst e67
   have HF := hid hF
   refine wpOp_step ho (fun K hK => ?_)
   have HK := hid hK
   clear hK ho hd hF h12 hj
   replace k1 := hid k1
   try simp only [List.getElem_toArray, List.getElem_cons_zero, List.getElem_cons_succ]
   go_simp
   have hF := HF.out
   exact HK.out _ _ ⟨_, _, _, _, _, _, _, _, _, _, _, _, ⟨hF.below, (fun h => by rw [if_neg (by decide), h12'] at h; cases h), (fun h => by rw [if_neg (by decide), h12'] at h; cases h), (fun _ h => hF.f0 h12' (ltrue (by decide) h)), (fun _ h => hF.f1 h12' (ltrue (by decide) h)), (fun _ h => hF.f2 h12' (ltrue (by decide) h)), (fun _ _ => ⟨p1, rfl, k1.out⟩), (fun _ h => hF.f4 h12' (ltrue (by decide) h)), (fun _ h => hF.f5 h12' (ltrue (by decide) h)), (fun _ h => hF.f6 h12' (ltrue (by decide) h)), (fun _ h => hF.f7 h12' (ltrue (by decide) h)), (fun _ h => hF.f8 h12' (ltrue (by decide) h)), (fun _ h => hF.f9 h12' (ltrue (by decide) h)), (fun _ h => hF.f10 h12' (ltrue (by decide) h)), (fun _ h => hF.f11 h12' (ltrue (by decide) h))⟩, rfl⟩
  ·obtain rfl := Option.some.inj (show some _ = some o from ho)
   have h12' := h12 (by decide)
   have HF := hid hF
   refine wpOp_step ho (fun K hK => ?_)
   have HK := hid hK
   clear hK ho hd hF h12 hj
   try simp only [List.getElem_toArray, List.getElem_cons_zero, List.getElem_cons_succ]
   go_simp
   have hF := HF.out
   exact HK.out _ _ ⟨_, _, _, _, _, _, _, _, _, _, _, _, ⟨hF.below, (fun h => by rw [if_neg (by decide), h12'] at h; cases h), (fun h => by rw [if_neg (by decide), h12'] at h; cases h), (fun _ h => hF.f0 h12' (ltrue (by decide) h)), (fun _ h => hF.f1 h12' (ltrue (by decide) h)), (fun _ h => hF.f2 h12' (ltrue (by decide) h)), (fun _ h => hF.f3 h12' (ltrue (by decide) h)), (fun _ _ => rfl), (fun _ h => hF.f5 h12' (ltrue (by decide) h)), (fun _ h => hF.f6 h12' (ltrue (by decide) h)), (fun _ h => hF.f7 h12' (ltrue (by decide) h)), (fun _ h => hF.f8 h12' (ltrue (by decide) h)), (fun _ h => hF.f9 h12' (ltrue (by decide) h)), (fun _ h => hF.f10 h12' (ltrue (by decide) h)), (fun _ h => hF.f11 h12' (ltrue (by decide) h))⟩, rfl⟩
  ·obtain rfl := Option.some.inj (show some _ = some o from ho)
   have d4 : L 4 = true := hd ⟨4, .data⟩ (by simp) rfl
   have h12' := h12 (by decide)
   have e69 := hF.f4 h12' d4
   subst e69
   have HF := hid hF
   refine wpOp_step ho (fun K hK => ?_)
   have HK := hid hK
   clear hK ho hd hF h12 hj
   try simp only [List.getElem_toArray, List.getElem_cons_zero, List.getElem_cons_succ]
   go_simp
   go_at_call 21
   with_reducible refine (ref_exact _ _).mono ?_
   rintro e3 w3 ⟨rfl, rfl⟩
   try dsimp only
   have hF := HF.out
   have hba := (Below.refl w.heap.size w).alloc (Nat.le_refl _) (.cells #[.int .i64 1, .string ⟨#[120]⟩, .slice none 0 0, .int .i64 0, .int .i64 0, .string ⟨#[]⟩, .slice none 0 0, .slice none 0 0] 28)
   exact HK.out _ _ ⟨_, _, _, _, _, _, _, _, _, _, _, _, ⟨hF.below.trans (hba.mono hF.below.size), (fun h => by rw [if_neg (by decide), h12'] at h; cases h), (fun h => by rw [if_neg (by decide), h12'] at h; cases h), (fun _ h => (hF.f0 h12' (ltrue (by decide) h)).bel hba), (fun _ h => hF.f1 h12' (ltrue (by decide) h)), (fun _ h => (hF.f2 h12' (ltrue (by decide) h)).bel hba), (fun _ h => (hF.f3 h12' (ltrue (by decide) h)).bel hba), (fun _ h => hF.f4 h12' (ltrue (by decide) h)), (fun _ _ => rfl), (fun _ h => (hF.f6 h12' (ltrue (by decide) h)).bel hba), (fun _ h => (hF.f7 h12' (ltrue (by decide) h)).bel hba), (fun _ h => hF.f8 h12' (ltrue (by decide) h)), (fun _ h => (hF.f9 h12' (ltrue (by decide) h)).bel hba), (fun _ h => (hF.f10 h12' (ltrue (by decide) h)).bel hba), (fun _ h => (hF.f11 h12' (ltrue (by decide) h)).bel hba)⟩, rfl⟩
  ·obtain rfl := Option.some.inj (show some _ = some o from ho)
   have d5 : L 5 = true := hd ⟨5, .data⟩ (by simp) rfl
   have h12' := h12 (by decide)
   have e70 := hF.f5 h12' d5
   subst e70
   have HF := hid hF
   refine wpOp_step ho (fun K hK => ?_)
   have HK := hid hK
   clear hK ho hd hF h12 hj
   try simp only [List.getElem_toArray, List.getElem_cons_zero, List.getElem_cons_succ]
   go_simp
   have hF := HF.out
   have hba := (Below.refl w.heap.size w).alloc (Nat.le_refl _) (.cells #[.int .i64 1, .string ⟨#[120]⟩, .slice none 0 0, .int .i64 0, .int .i64 0, .string ⟨#[]⟩, .slice none 0 0, .slice none 0 0] 28)
   exact HK.out _ _ ⟨_, _, _, _, _, _, _, _, _, _, _, _, ⟨hF.below.trans (hba.mono hF.below.size), (fun h => by rw [if_neg (by decide), h12'] at h; cases h), (fun h => by rw [if_neg (by decide), h12'] at h; cases h), (fun _ h => (hF.f0 h12' (ltrue (by decide) h)).bel hba), (fun _ h => hF.f1 h12' (ltrue (by decide) h)), (fun _ h => (hF.f2 h12' (ltrue (by decide) h)).bel hba), (fun _ h => (hF.f3 h12' (ltrue (by decide) h)).bel hba), (fun _ h => hF.f4 h12' (ltrue (by decide) h)), (fun _ h => hF.f5 h12' (ltrue (by decide) h)), (fun _ _ => ⟨w.heap.size, rfl, heap_alloc_new w _⟩), (fun _ h => (hF.f7 h12' (ltrue (by decide) h)).bel hba), (fun _ h => hF.f8 h12' (ltrue (by decide) h)), (fun _ h => (hF.f9 h12' (ltrue (by decide) h)).bel hba), (fun _ h => (hF.f10 h12' (ltrue (by decide) h)).bel hba), (fun _ h => (hF.f11 h12' (ltrue (by decide) h)).bel hba)⟩, rfl⟩
  ·obtain rfl := Option.some.inj (show some _ = some o from ho)
   have d6 : L 6 = true := hd ⟨6, .data⟩ (by simp) rfl
   have h12' := h12 (by decide)
   obtain ⟨p1, e71, k1⟩ := hF.f6 h12' d6
   subst e71
   have HF := hid hF
   refine wpOp_step ho (fun K hK => ?_)
   have HK := hid hK
   clear hK ho hd hF h12 hj
   replace k1 := hid k1
   try simp only [List.getElem_toArray, List.getElem_cons_zero, List.getElem_cons_succ]
   go_simp
   have hF := HF.out
   exact HK.out _ _ ⟨_, _, _, _, _, _, _, _, _, _, _, _, ⟨hF.below, (fun h => by rw [if_neg (by decide), h12'] at h; cases h), (fun h => by rw [if_neg (by decide), h12'] at h; cases h), (fun _ h => hF.f0 h12' (ltrue (by decide) h)), (fun _ h => hF.f1 h12' (ltrue (by decide) h)), (fun _ h => hF.f2 h12' (ltrue (by decide) h)), (fun _ h => hF.f3 h12' (ltrue (by decide) h)), (fun _ h => hF.f4 h12' (ltrue (by decide) h)), (fun _ h => hF.f5 h12' (ltrue (by decide) h)), (fun _ h => hF.f6 h12' (ltrue (by decide) h)), (fun _ _ => ⟨p1, rfl, k1.out⟩), (fun _ h => hF.f8 h12' (ltrue (by decide) h)), (fun _ h => hF.f9 h12' (ltrue (by decide) h)), (fun _ h => hF.f10 h12' (ltrue (by decide) h)), (fun _ h => hF.f11 h12' (ltrue (by decide) h))⟩, rfl⟩
  ·obtain rfl := Option.some.inj (show some _ = some o from ho)
   have h12' := h12 (by decide)
   have HF := hid hF
   refine wpOp_step ho (fun K hK => ?_)
   have HK := hid hK
   clear hK ho hd hF h12 hj
   try simp only [List.getElem_toArray, List.getElem_cons_zero, List.getElem_cons_succ]
   go_simp
   have hF := HF.out
   exact HK.out _ _ ⟨_, _, _, _, _, _, _, _, _, _, _, _, ⟨hF.below, (fun h => by rw [if_neg (by decide), h12'] at h; cases h), (fun h => by rw [if_neg (by decide), h12'] at h; cases h), (fun _ h => hF.f0 h12' (ltrue (by decide) h)), (fun _ h => hF.f1 h12' (ltrue (by decide) h)), (fun _ h => hF.f2 h12' (ltrue (by decide) h)), (fun _ h => hF.f3 h12' (ltrue (by decide) h)), (fun _ h => hF.f4 h12' (ltrue (by decide) h)), (fun _ h => hF.f5 h12' (ltrue (by decide) h)), (fun _ h => hF.f6 h12' (ltrue (by decide) h)), (fun _ h => hF.f7 h12' (ltrue (by decide) h)), (fun _ _ => rfl), (fun _ h => hF.f9 h12' (ltrue (by decide) h)), (fun _ h => hF.f10 h12' (ltrue (by decide) h)), (fun _ h => hF.f11 h12' (ltrue (by decide) h))⟩, rfl⟩
  ·obtain rfl := Option.some.inj (show some _ = some o from ho)
   have d3 : L 3 = true := hd ⟨3, .data⟩ (by simp) rfl
   have d7 : L 7 = true := hd ⟨7, .data⟩ (by simp) rfl
   have d8 : L 8 = true := hd ⟨8, .data⟩ (by simp) rfl
   have h12' := h12 (by decide)
   obtain ⟨p1, e68, k1⟩ := hF.f3 h12' d3
   obtain ⟨p2, e72, k2⟩ := hF.f7 h12' d7
   have e73 := hF.f8 h12' d8
   subst e68
   subst e72
   subst e73
   have HF := hid hF
   refine wpOp_step ho (fun K hK => ?_)
   have HK := hid hK
   clear hK ho hd hF h12 hj
   replace k1 := hid k1
   replace k2 := hid k2
   try simp only [List.getElem_toArray, List.getElem_cons_zero, List.getElem_cons_succ]
   go_simp
   have hF := HF.out
   have hba := (Below.refl w.heap.size w).alloc (Nat.le_refl _) (.cells #[.int .i64 5, .string ⟨#[]⟩, .slice none 0 0, .int .i64 0, .int .i64 0, .string ⟨#[]⟩, .slice none 0 0, .slice (some ⟨p1, 0, none⟩) 1 1, .int .i64 5, .string ⟨#[]⟩, .slice none 0 0, .int .i64 0, .int .i64 0, .string ⟨#[]⟩, .slice none 0 0, .slice (some ⟨p2, 0, none⟩) 1 1, .int .i64 4, .string ⟨#[]⟩, .slice none 0 0, .int .i64 0, .int .i64 0, .string ⟨#[]⟩, .slice none 0 0, .slice kb bn bc] 28)
   exact HK.out _ _ ⟨_, _, _, _, _, _, _, _, _, _, _, _, ⟨hF.below.trans (hba.mono hF.below.size), (fun h => by rw [if_neg (by decide), h12'] at h; cases h), (fun h => by rw [if_neg (by decide), h12'] at h; cases h), (fun _ h => (hF.f0 h12' (ltrue (by decide) h)).bel hba), (fun _ h => hF.f1 h12' (ltrue (by decide) h)), (fun _ h => (hF.f2 h12' (ltrue (by decide) h)).bel hba), (fun _ h => (hF.f3 h12' (ltrue (by decide) h)).bel hba), (fun _ h => hF.f4 h12' (ltrue (by decide) h)), (fun _ h => hF.f5 h12' (ltrue (by decide) h)), (fun _ h => (hF.f6 h12' (ltrue (by decide) h)).bel hba), (fun _ h => (hF.f7 h12' (ltrue (by decide) h)).bel hba), (fun _ h => hF.f8 h12' (ltrue (by decide) h)), (fun _ _ => ⟨w.heap.size, p1, p2, rfl, heap_alloc_new w _, old_bel k1.out hba, old_bel k2.out hba⟩), (fun _ h => (hF.f10 h12' (ltrue (by decide) h)).bel hba), (fun _ h => (hF.f11 h12' (ltrue (by decide) h)).bel hba)⟩, rfl⟩
  ·obtain rfl := Option.some.inj (show some _ = some o from ho)
   have d0 : L 0 = true := hd ⟨0, .data⟩ (by simp) rfl
   have d9 : L 9 = true := hd ⟨9, .data⟩ (by simp) rfl
   have h12' := h12 (by decide)
   obtain ⟨p0, e65, k0⟩ := hF.f0 h12' d0
   obtain ⟨p1, p2, p3, e74, k1, k2, k3⟩ := hF.f9 h12' d9
   subst e65
   subst e74
   have HF := hid hF
   refine wpOp_step ho (fun K hK => ?_)
   have HK := hid hK
   clear hK ho hd hF h12 hj
   replace k0 := hid k0
   replace k1 := hid k1
   replace k2 := hid k2
   replace k3 := hid k3
   try simp only [List.getElem_toArray, List.getElem_cons_zero, List.getElem_cons_succ]
   go_simp
   have hF := HF.out
   exact HK.out _ _ ⟨_, _, _, _, _, _, _, _, _, _, _, _, ⟨hF.below, (fun h => by rw [if_neg (by decide), h12'] at h; cases h), (fun h => by rw [if_neg (by decide), h12'] at h; cases h), (fun _ h => hF.f0 h12' (ltrue (by decide) h)), (fun _ h => hF.f1 h12' (ltrue (by decide) h)), (fun _ h => hF.f2 h12' (ltrue (by decide) h)), (fun _ h => hF.f3 h12' (ltrue (by decide) h)), (fun _ h => hF.f4 h12' (ltrue (by decide) h)), (fun _ h => hF.f5 h12' (ltrue (by decide) h)), (fun _ h => hF.f6 h12' (ltrue (by decide) h)), (fun _ h => hF.f7 h12' (ltrue (by decide) h)), (fun _ h => hF.f8 h12' (ltrue (by decide) h)), (fun _ h => hF.f9 h12' (ltrue (by decide) h)), (fun _ _ => ⟨p0, p1, p2, p3, rfl, k0.out, k1.out, k2.out, k3.out⟩), (fun _ h => hF.f11 h12' (ltrue (by decide) h))⟩, rfl⟩
  ·obtain rfl := Option.some.inj (show some _ = some o from ho)
   have h12' := h12 (by decide)
   have HF := hid hF
   refine wpOp_step ho (fun K hK => ?_)
   have HK := hid hK
   clear hK ho hd hF h12 hj
   try simp only [List.getElem_toArray, List.getElem_cons_zero, List.getElem_cons_succ]
   go_simp
   have hF := HF.out
   have hba := (Below.refl w.heap.size w).alloc (Nat.le_refl _) (.cells #[.int .i64 0, .string ⟨#[]⟩, .slice none 0 0, .int .i64 0, .int .i64 0, .string ⟨#[]⟩, .slice none 0 0, .slice none 0 0] 28)
   exact HK.out _ _ ⟨_, _, _, _, _, _, _, _, _, _, _, _, ⟨hF.below.trans (hba.mono hF.below.size), (fun h => by rw [if_neg (by decide), h12'] at h; cases h), (fun h => by rw [if_neg (by decide), h12'] at h; cases h), (fun _ h => (hF.f0 h12' (ltrue (by decide) h)).bel hba), (fun _ h => hF.f1 h12' (ltrue (by decide) h)), (fun _ h => (hF.f2 h12' (ltrue (by decide) h)).bel hba), (fun _ h => (hF.f3 h12' (ltrue (by decide) h)).bel hba), (fun _ h => hF.f4 h12' (ltrue (by decide) h)), (fun _ h => hF.f5 h12' (ltrue (by decide) h)), (fun _ h => (hF.f6 h12' (ltrue (by decide) h)).bel hba), (fun _ h => (hF.f7 h12' (ltrue (by decide) h)).bel hba), (fun _ h => hF.f8 h12' (ltrue (by decide) h)), (fun _ h => (hF.f9 h12' (ltrue (by decide) h)).bel hba), (fun _ h => (hF.f10 h12' (ltrue (by decide) h)).bel hba), (fun _ _ => ⟨w.heap.size, rfl, hF.below.size, heap_alloc_new w _⟩)⟩, rfl⟩
  ·obtain rfl := Option.some.inj (show some _ = some o from ho)
   have d11 : L 11 = true := hd ⟨11, .data⟩ (by simp) rfl
   have d10 : L 10 = true := hd ⟨10, .data⟩ (by simp) rfl
   have hall : ∀ k, k < 12 → L k = true := fun k hk => by rcases (by omega : k = 0 ∨ k = 1 ∨ k = 2 ∨ k = 3 ∨ k = 4 ∨ k = 5 ∨ k = 6 ∨ k = 7 ∨ k = 8 ∨ k = 9 ∨ k = 10 ∨ k = 11) with rfl | rfl | rfl | rfl | rfl | rfl | rfl | rfl | rfl | rfl | rfl | rfl <;> exact hd ⟨_, .phase⟩ (by simp) rfl
   have h12' : L 12 = false := hj
   obtain ⟨g, e9, hgl, kg⟩ := hF.f11 h12' d11
   obtain ⟨p0, p1, p2, p3, e75, k0, k1, k2, k3⟩ := hF.f10 h12' d10
   obtain ⟨⟨_, s0⟩, ⟨_, s1⟩, ⟨_, s2⟩, ⟨_, s3⟩, ⟨_, s4⟩, ⟨_, s5⟩, ⟨_, s6⟩, ⟨_, s7⟩, q0, q1, q2, q3, q4, q5, q6, q7, sbl⟩ := blk8 kg
   subst e9
   subst e75
   have HF := hid hF
   refine wpOp_step ho (fun K hK => ?_)
   have HK := hid hK
   clear hK ho hd hF h12 hj
   replace k0 := hid k0
   replace k1 := hid k1
   replace k2 := hid k2
   replace k3 := hid k3
   replace kg := hid kg
   try simp only [List.getElem_toArray, List.getElem_cons_zero, List.getElem_cons_succ]
   go_simp
   have hF := HF.out
   have hv := store_var hm hbd hF.below hgl kg.out k0.out k1.out k2.out k3.out
   exact HK.out _ _ ⟨_, _, _, _, _, _, _, _, _, _, _, _, ⟨below_put8 hF.below hgl (.int .i64 8) (.string ⟨#[]⟩) (.slice (some ⟨p0, 0, none⟩) 2 2) (.int .i64 0) (.int .i64 0) (.string ⟨#[]⟩) (.slice none 0 0) (.slice (some ⟨p1, 0, none⟩) 3 3), (fun _ k hk => by rw [if_neg (by omega)]; exact hall k hk), (fun _ => ⟨g, p0, p1, rfl, hv⟩), (fun h => by rw [if_pos rfl] at h; cases h), (fun h => by rw [if_pos rfl] at h; cases h), (fun h => by rw [if_pos rfl] at h; cases h), (fun h => by rw [if_pos rfl] at h; cases h), (fun h => by rw [if_pos rfl] at h; cases h), (fun h => by rw [if_pos rfl] at h; cases h), (fun h => by rw [if_pos rfl] at h; cases h), (fun h => by rw [if_pos rfl] at h; cases h), (fun h => by rw [if_pos rfl] at h; cases h), (fun h => by rw [if_pos rfl] at h; cases h), (fun h => by rw [if_pos rfl] at h; cases h), (fun h => by rw [if_pos rfl] at h; cases h)⟩, rfl⟩
 ·intro L a w hall hI
  obtain ⟨u9, u65, u66, u67, u68, u69, u70, u71, u72, u73, u74, u75, hF, rfl⟩ := hI
  obtain ⟨g, a, d, rfl, hv⟩ := hF.f12 (hall 12 (by decide))
  exact hQ _ _ _ _ _ _ _ _ _ _ _ g a d w hv
 ·exact ⟨_, _, _, _, _, _, _, _, _, _, _, _, ⟨(Below.refl _ _).drew, (fun h => by simp at h), (fun h => by simp at h), (fun _ h => by simp at h), (fun _ h => by simp at h), (fun _ h => by simp at h), (fun _ h => by simp at h), (fun _ h => by simp at h), (fun _ h => by simp at h), (fun _ h => by simp at h), (fun _ h => by simp at h), (fun _ h => by simp at h), (fun _ h => by simp at h), (fun _ h => by simp at h), (fun _ h => by simp at h)⟩, rfl⟩
set_option maxHeartbeats 64000000 in
theorem counts_in (N : Nat) (f : Int) (w : World) (hN : N ≤ 30) (hf1 : -1000 ≤ f) (hf2 : f ≤ 1000) : Calls Tryz.prog 8 #[.int .i64 N, .int .i64 f] w (Says (.bool true) w) := by
 obtain ⟨i0, hi, hz0, hz1, hz2⟩ := info_parts infoExpr
 have HI := hid hi
 have HZ0 := hid hz0
 have HZ1 := hid hz1
 have HZ2 := hid hz2
 have q1 : decide ((N : Int) < 0) = false := decide_eq_false (by omega)
 have q2 : decide ((30 : Int) < (N : Int)) = false := decide_eq_false (by omega)
 have q3 : decide (f < -1000) = false := decide_eq_false (by omega)
 have q4 : decide ((1000 : Int) < f) = false := decide_eq_false (by omega)
 have HN := hid hN
 have HF1 := hid hf1
 have HF2 := hid hf2
 clear hi hz0 hz1 hz2 hN hf1 hf2
 go_enter Tryz.func8, Tryz.ntmps8
 go_upto_region 5 with (first
  | (go_at_call 19; (with_reducible refine (fixed11_any _).mono ?_); rintro e2 w2 ⟨rfl, hb⟩; have HB2 := hid hb; clear hb)
  | (go_at_call 21; (with_reducible refine (ref_exact _ _).mono ?_); rintro e3 w3 ⟨rfl, rfl⟩)
  | (go_at_call 22; (with_reducible refine (num_exact _ _).mono ?_); rintro e3 w3 ⟨rfl, rfl⟩)
  | fail)
 obtain ⟨W, hW⟩ : ∃ W, W = (((((w2.alloc (.cells #[.int .i64 1, .string ⟨#[120]⟩, .slice none 0 0, .int .i64 0, .int .i64 0, .string ⟨#[]⟩, .slice none 0 0, .slice none 0 0] 28)).alloc (.cells #[.int .i64 0, .string ⟨#[]⟩, .slice none 0 0, .int .i64 1, .int .i64 1, .string ⟨#[]⟩, .slice none 0 0, .slice none 0 0] 28)).alloc (.cells #[.int .i64 1, .string ⟨#[120]⟩, .slice none 0 0, .int .i64 0, .int .i64 0, .string ⟨#[]⟩, .slice none 0 0, .slice none 0 0, .int .i64 0, .string ⟨#[]⟩, .slice none 0 0, .int .i64 1, .int .i64 1, .string ⟨#[]⟩, .slice none 0 0, .slice none 0 0] 28)).alloc (.cells #[.int .i64 7, .string ⟨#[43]⟩, .slice none 0 0, .int .i64 0, .int .i64 0, .string ⟨#[]⟩, .slice none 0 0, .slice (some ⟨w2.heap.size + 1 + 1, 0, none⟩) 2 2] 28)).alloc (.cells #[.int .i64 2, .string ⟨#[120]⟩, .slice none 0 0, .int .i64 0, .int .i64 0, .string ⟨#[]⟩, .slice none 0 0, .slice (some ⟨w2.heap.size + 1 + 1 + 1, 0, none⟩) 1 1] 28)) := ⟨_, rfl⟩
 rw [← hW]
 have HM := hid (more_var w2 hW)
 clear hW
 obtain ⟨W5, B5⟩ := boxed W #[.int .i64 4, .string ⟨#[]⟩, .slice none 0 0, .int .i64 0, .int .i64 0, .string ⟨#[]⟩, .slice none 0 0, .slice none 0 0] 28
 go_upto_region 6 with fail
 rw [← B5.eq]
 have HB5 := hid B5
 have HBX0 : Hid (Bx W.heap.size (.mk 4 ⟨#[]⟩ [] Dt.zero []) (.slice none 0 0) (.slice none 0 0) W5 (fun b => if b = W.heap.size then 1 else 0) W.heap.size W5 (fun b => if b = W.heap.size then 1 else 0) (.slice none 0 0) []) :=
  ⟨B5.blk, XR.none _ _ _, ⟨fun b hb => if_neg (by omega), fun b hb => if_neg (by have := B5.size; omega), B5.below.size⟩, GrS.of_bel (Below.refl _ _), if_pos rfl⟩
 clear B5
 go_wp2_with fail
 go_loopg [8] N (fun g i wr => ∃ (j : Nat) (ρ : Nat → Nat) (kv : Value) (M : List XM), j ≤ N ∧ g = N - j ∧ i = .int .i64 j ∧ Bx W.heap.size (.mk 4 ⟨#[]⟩ [] Dt.zero []) (.slice none 0 0) (.slice none 0 0) W5 (fun b => if b = W.heap.size then 1 else 0) W.heap.size wr ρ kv M ∧ M.map (·.e) = List.replicate j (Bc.callE Bc.sup))
 case atStart => exact ⟨0, _, _, [], Nat.zero_le _, rfl, rfl, HBX0.out, rfl⟩
 case round =>
  obtain ⟨j, ρ, kv, M, hj, rfl, rfl, hx, hes⟩ := hrel
  have HX := hid hx
  have HES := hid hes
  have hml : M.length = j := by
   have := congrArg List.length hes
   rwa [List.length_map, List.length_replicate] at this
  have HML : Hid (M.length ≤ 100000) := by have := HN.out; unfold Hid; omega
  have hob : wr.cell? ⟨W.heap.size, 7, none⟩ = some kv := cell_of_row _ _ 7 _ _ _ hx.blk
  have hobl := (Array.getElem?_eq_some_iff.1 hx.blk).1
  have HMJ := hid hml
  clear hx hes hml
  by_cases hlt : j < N
  ·have gw : IntKind.i64.wrap ((j : Int) + 1) = ((j + 1 : Nat) : Int) := by rw [IntKind.wrap_i64]; have := HN.out; omega
   have HW7 : Hid (Below wr.heap.size wr wr.drew) := (Below.refl _ _).drew
   have HX7 := hid (HX.out.bel HW7.out)
   have hob7 : wr.drew.cell? ⟨W.heap.size, 7, none⟩ = some kv := cell_of_row _ _ 7 _ _ _ HX7.out.blk
   go_upto_region 9 with fail
   go_region_law (first
    | ((with_reducible refine at_app2 (((w8.alloc (.cells #[.int .i64 1, .string ⟨#[117, 112]⟩, .slice none 0 0, .int .i64 0, .int .i64 0, .string ⟨#[]⟩, .slice none 0 0, .slice none 0 0] 28)).alloc (.cells #[.int .i64 6, .string ⟨#[]⟩, .slice none 0 0, .int .i64 0, .int .i64 0, .string ⟨#[]⟩, .slice none 0 0, .slice (some ⟨w8.heap.size, 0, none⟩) 1 1] 28))) (.tmp 47) (.tmp 52) 26 ?_ ?_); (· rfl); refine step_app (XM.cells (noX 6 ⟨#[]⟩ [Ex.refE Bc.sup] (.slice (some ⟨w8.heap.size, 0, none⟩) 1 1))) 47 52 (by rfl) (by rfl) (by rfl) (by rfl) HAP.out.own (by have := HML.out; omega) (by decide) (heap_new (by simp)) (by rfl) HAP.out.one (by simp) ?_ (by decide); intro av9 cv9 w9 hown hgr hlb; have hob9 := HX8.out.obk ((Below.refl _ _).alloc (Nat.le_refl _) _) hgr; have s7 : w9.cell? ⟨W.heap.size, 7, none⟩ = some kv := cell_of_row _ W.heap.size 7 _ _ _ hob9; have q7 : w9.frozen? ⟨W.heap.size, 7, none⟩ = false := frozen_row8 hob9; have sbl := (Array.getElem?_eq_some_iff.1 hob9).1; have HOW := hid hown; have HGR := hid hgr; have HLB := hid hlb; clear hown hgr hlb hob9)
    | (go_simp; go_wp2_with (first | (go_at_call 21; (with_reducible refine (bref_any ⟨#[117, 112]⟩ _).mono ?_); rintro e2 w8 ⟨rfl, hb8⟩; have HX8 := hid ((HX7.out.bel hb8).bel ((Below.refl _ w8).alloc (Nat.le_refl _) (.cells #[.int .i64 1, .string ⟨#[117, 112]⟩, .slice none 0 0, .int .i64 0, .int .i64 0, .string ⟨#[]⟩, .slice none 0 0, .slice none 0 0] 28))); have hob8 : w8.cell? ⟨W.heap.size, 7, none⟩ = some kv := cell_of_row _ _ 7 _ _ _ (HX7.out.bel hb8).blk; have hol8 := (Array.getElem?_eq_some_iff.1 (HX7.out.bel hb8).blk).1; have HAP := hid (appX HX8.out.row (Below.refl _ _) (noX 6 ⟨#[]⟩ [Ex.refE Bc.sup] (.slice (some ⟨w8.heap.size, 0, none⟩) 1 1)) ⟨_, _, _, rfl⟩ ⟨_, _, _, rfl⟩ ⟨_, _, _, rfl⟩); have HON : Hid (Free0 ρ ((w8.alloc (.cells #[.int .i64 1, .string ⟨#[117, 112]⟩, .slice none 0 0, .int .i64 0, .int .i64 0, .string ⟨#[]⟩, .slice none 0 0, .slice none 0 0] 28))) (fun w => ExAt w (noX 6 ⟨#[]⟩ [Ex.refE Bc.sup] (.slice (some ⟨w8.heap.size, 0, none⟩) 1 1)).val (noX 6 ⟨#[]⟩ [Ex.refE Bc.sup] (.slice (some ⟨w8.heap.size, 0, none⟩) 1 1)).e)) := call1_on (x := noX 1 Bc.sup [] (.slice none 0 0)) (heap_alloc_new w8 _) ((HX7.out.bel hb8).ri.hi _ (Nat.le_refl _)) (fun w' _ _ => ref_ex w' Bc.sup); clear hb8) | fail))
    | fail)
   all_goals
    obtain ⟨ρ', hn⟩ := HX8.out.next (y := noX 6 ⟨#[]⟩ [Ex.refE Bc.sup] (.slice (some ⟨w8.heap.size, 0, none⟩) 1 1)) HON.out ((Below.refl _ _).alloc (Nat.le_refl _) _) HOW.out HGR.out HLB.out
    have HN2 := hid hn
    clear hn
    go_wp2_with fail
    go_roundg (N - (j + 1))
    case measure => omega
    case rel => exact ⟨j + 1, ρ', _, _, by omega, rfl, by go_num, HN2.out, by
     rw [List.map_append, HES.out, List.replicate_succ']
     rfl⟩
  ·obtain rfl : j = N := by omega
   have hge : ¬ ((j : Int) < (j : Int)) := by omega
   have HW7 : Hid (Below wr.heap.size wr wr.drew) := (Below.refl _ _).drew
   have HX7 := hid (HX.out.bel HW7.out)
   have hob7 : wr.drew.cell? ⟨W.heap.size, 7, none⟩ = some kv := cell_of_row _ _ 7 _ _ _ HX7.out.blk
   go_upto_region 10 with fail
   go_cut [63] from 55 to 63 (fun s63 wx => ∃ kv, Hid (VarX W wx W.heap.size (noX 4 ⟨#[]⟩ (Bc.bodyL j) kv)))
   case first =>
    go_region_law (first
     | ((with_reducible refine at_app2 (((w8.alloc (.cells #[.int .i64 1, .string ⟨#[103, 101, 116]⟩, .slice none 0 0, .int .i64 0, .int .i64 0, .string ⟨#[]⟩, .slice none 0 0, .slice none 0 0] 28)).alloc (.cells #[.int .i64 0, .string ⟨#[]⟩, .slice none 0 0, .int .i64 1, .int .i64 0, .string ⟨#[]⟩, .slice none 0 0, .slice none 0 0, .int .i64 6, .string ⟨#[]⟩, .slice none 0 0, .int .i64 0, .int .i64 0, .string ⟨#[]⟩, .slice none 0 0, .slice (some ⟨w8.heap.size, 0, none⟩) 1 1] 28))) (.tmp 56) (.tmp 62) 26 ?_ ?_); (· rfl); refine step_app (flatX [⟨numE 0, .slice none 0 0, .slice none 0 0, .slice none 0 0⟩, noX 6 ⟨#[]⟩ [Ex.refE Bc.sget] (.slice (some ⟨w8.heap.size, 0, none⟩) 1 1)]) 56 62 (by rfl) (by rfl) (by rfl) (by rfl) HOW2.out (by have := HML.out; omega) (by decide) (heap_new (by simp)) (by rfl) HONE.out (by simp) ?_ (by decide); intro av9 cv9 w9 hown hgr hlb; have hob9 := HX8.out.obk ((Below.refl _ _).alloc (Nat.le_refl _) _) hgr; have s7 : w9.cell? ⟨W.heap.size, 7, none⟩ = some kv := cell_of_row _ W.heap.size 7 _ _ _ hob9; have q7 : w9.frozen? ⟨W.heap.size, 7, none⟩ = false := frozen_row8 hob9; have sbl := (Array.getElem?_eq_some_iff.1 hob9).1; have HOW := hid hown; have HGR := hid hgr; have HLB := hid hlb; clear hown hgr hlb hob9)
     | (go_simp; go_wp2_with (first
      | (go_at_call 22; (with_reducible refine (num_any 0 _).mono ?_); rintro e2 w7 ⟨rfl, hb7⟩; have HX77 := hid (HX7.out.bel hb7); have hob77 : w7.cell? ⟨W.heap.size, 7, none⟩ = some kv := cell_of_row _ _ 7 _ _ _ HX77.out.blk; have hol77 := (Array.getElem?_eq_some_iff.1 HX77.out.blk).1; clear hb7)
      | (go_at_call 21; (with_reducible refine (bref_any ⟨#[103, 101, 116]⟩ _).mono ?_); rintro e2 w8 ⟨rfl, hb8⟩; have HX8 := hid ((HX77.out.bel hb8).bel ((Below.refl _ w8).alloc (Nat.le_refl _) (.cells #[.int .i64 1, .string ⟨#[103, 101, 116]⟩, .slice none 0 0, .int .i64 0, .int .i64 0, .string ⟨#[]⟩, .slice none 0 0, .slice none 0 0] 28))); have hob8 : w8.cell? ⟨W.heap.size, 7, none⟩ = some kv := cell_of_row _ _ 7 _ _ _ (HX77.out.bel hb8).blk; have hol8 := (Array.getElem?_eq_some_iff.1 (HX77.out.bel hb8).blk).1; have HOW2 : Hid ((((w8.alloc (.cells #[.int .i64 1, .string ⟨#[103, 101, 116]⟩, .slice none 0 0, .int .i64 0, .int .i64 0, .string ⟨#[]⟩, .slice none 0 0, .slice none 0 0] 28)).alloc (.cells #[.int .i64 0, .string ⟨#[]⟩, .slice none 0 0, .int .i64 1, .int .i64 0, .string ⟨#[]⟩, .slice none 0 0, .slice none 0 0, .int .i64 6, .string ⟨#[]⟩, .slice none 0 0, .int .i64 0, .int .i64 0, .string ⟨#[]⟩, .slice none 0 0, .slice (some ⟨w8.heap.size, 0, none⟩) 1 1] 28))).ownsRow 0 28 8 kv M.length (flatX M)) := HX8.out.row.row.1.alloc _; have HONE := hid (get_one w8.heap.size); have HYS := hid (get_on (ρ := ρ) w8 ((HX77.out.bel hb8).ri.hi _ (Nat.le_refl _))); clear hb8) | fail))
     | fail)
    all_goals
     obtain ⟨ρ', hn⟩ := HX8.out.many HYS.out ((Below.refl _ _).alloc (Nat.le_refl _) _) HOW.out HGR.out HLB.out
     have HN2 := hid hn
     clear hn
     go_wp2_with fail
     go_meet
     case rel => exact ⟨_, body_var HN2.out (by rw [List.map_append, HES.out]; rfl) HB5.out.below⟩
   case rest =>
    obtain ⟨kv2, HBV⟩ := hcut
    clear HX HX7 hob7 hob HES HML HMJ
    have HMV := hid (HM.out.bel HBV.out.below)
    go_upto_region 11 with fail
    obtain ⟨kb2, bn2, bc2, hkv⟩ := (ExAt.slices HBV.out.ex).2.2
    subst hkv
    refine reg11 HMV.out HBV.out ?_
    intro u65 u66 u67 u68 u69 u70 u71 u72 u73 u74 u75 g11 a11 d11 w11 hl11
    have HL11 := hid hl11
    have hb11 : w11.heap[g11]? = some (.cells #[.int .i64 8, .string ⟨#[]⟩, .slice (some ⟨a11, 0, none⟩) 2 2, .int .i64 0, .int .i64 0, .string ⟨#[]⟩, .slice none 0 0, .slice (some ⟨d11, 0, none⟩) 3 3] 28 (0, 0)) := hl11.blk
    obtain ⟨x0, x1, x2, x3, x4, x5, x6, x7, xl⟩ := Row.of hb11
    clear hl11 hb11 hobl hlt hj hge
    go_upto_region 13 with fail
    obtain ⟨w12, hw12⟩ : ∃ X, X = (((w11.alloc (.cells #[.string ⟨#[120]⟩] 9)).alloc (.cells #[.int .i64 8, .string ⟨#[]⟩, .slice (some ⟨a11, 0, none⟩) 2 2, .int .i64 0, .int .i64 0, .string ⟨#[]⟩, .slice none 0 0, .slice (some ⟨d11, 0, none⟩) 3 3] 28)).alloc (.cells #[.int .i64 5, .string ⟨#[]⟩, .slice (some ⟨w11.heap.size, 0, none⟩) 1 1, .int .i64 0, .int .i64 0, .string ⟨#[]⟩, .slice none 0 0, .slice (some ⟨w11.heap.size + 1, 0, none⟩) 1 1] 28)) := ⟨_, rfl⟩
    rw [← hw12]
    have HL12 := hid (lam_var HL11.out hw12)
    clear hw12 x0 x1 x2 x3 x4 x5 x6 x7 xl
    have hS : ∀ w', Below w12.heap.size w12 w' → (w'.cell? ⟨w11.heap.size + 1 + 1, 0, none⟩ = some (.int .i64 5) ∧ w'.cell? ⟨w11.heap.size + 1 + 1, 1, none⟩ = some (.string ⟨#[]⟩) ∧ w'.cell? ⟨w11.heap.size + 1 + 1, 2, none⟩ = some (.slice (some ⟨w11.heap.size, 0, none⟩) 1 1) ∧ w'.cell? ⟨w11.heap.size + 1 + 1, 3, none⟩ = some (.int .i64 0) ∧ w'.cell? ⟨w11.heap.size + 1 + 1, 4, none⟩ = some (.int .i64 0) ∧ w'.cell? ⟨w11.heap.size + 1 + 1, 5, none⟩ = some (.string ⟨#[]⟩) ∧ w'.cell? ⟨w11.heap.size + 1 + 1, 6, none⟩ = some (.slice none 0 0) ∧ w'.cell? ⟨w11.heap.size + 1 + 1, 7, none⟩ = some (.slice (some ⟨w11.heap.size + 1, 0, none⟩) 1 1)) := fun w' hb => by
     have h1 := (Row.of HL12.out.blk).bel hb
     exact ⟨h1.c0, h1.c1, h1.c2, h1.c3, h1.c4, h1.c5, h1.c6, h1.c7⟩
    have HSS := hid hS
    have l3 : w11.heap.size + 1 + 1 < w12.heap.size := (Array.getElem?_eq_some_iff.1 HL12.out.blk).1
    clear hS
    go_cut [11] from 80 to 84 (fun s11 wx => ∃ g k, s11 = .pointer (some ⟨g, 0, none⟩) ∧ Hid (VarX w2 wx g (allX j f k)))
    case first =>
     go_region_held3 (fun w' => w'.cell? ⟨w11.heap.size + 1 + 1, 0, none⟩ = some (.int .i64 5) ∧ w'.cell? ⟨w11.heap.size + 1 + 1, 1, none⟩ = some (.string ⟨#[]⟩) ∧ w'.cell? ⟨w11.heap.size + 1 + 1, 2, none⟩ = some (.slice (some ⟨w11.heap.size, 0, none⟩) 1 1) ∧ w'.cell? ⟨w11.heap.size + 1 + 1, 3, none⟩ = some (.int .i64 0) ∧ w'.cell? ⟨w11.heap.size + 1 + 1, 4, none⟩ = some (.int .i64 0) ∧ w'.cell? ⟨w11.heap.size + 1 + 1, 5, none⟩ = some (.string ⟨#[]⟩) ∧ w'.cell? ⟨w11.heap.size + 1 + 1, 6, none⟩ = some (.slice none 0 0) ∧ w'.cell? ⟨w11.heap.size + 1 + 1, 7, none⟩ = some (.slice (some ⟨w11.heap.size + 1, 0, none⟩) 1 1))
      (first | with_reducible exact HSS.out _ (Below.refl _ _).drew | with_reducible exact HSS.out _ ((Below.refl _ _).alloc (by simp) _).drew | with_reducible exact HSS.out _ (((Below.refl _ _).alloc (by simp) _).alloc (by simp <;> omega) _).drew | with_reducible exact HSS.out _ ((((Below.refl _ _).alloc (by simp) _).alloc (by simp <;> omega) _).alloc (by simp <;> omega) _).drew | with_reducible exact HSS.out _ (((((Below.refl _ _).alloc (by simp) _).alloc (by simp <;> omega) _).alloc (by simp <;> omega) _).alloc (by simp <;> omega) _).drew | with_reducible exact HSS.out _ ((((((Below.refl _ _).alloc (by simp) _).alloc (by simp <;> omega) _).alloc (by simp <;> omega) _).alloc (by simp <;> omega) _).alloc (by simp <;> omega) _).drew | with_reducible exact HSS.out _ (((((((Below.refl _ _).alloc (by simp) _).alloc (by simp <;> omega) _).alloc (by simp <;> omega) _).alloc (by simp <;> omega) _).alloc (by simp <;> omega) _).alloc (by simp <;> omega) _).drew | with_reducible exact HSS.out _ ((((((((Below.refl _ _).alloc (by simp) _).alloc (by simp <;> omega) _).alloc (by simp <;> omega) _).alloc (by simp <;> omega) _).alloc (by simp <;> omega) _).alloc (by simp <;> omega) _).alloc (by simp <;> omega) _).drew | with_reducible exact HSS.out _ (Below.refl _ _) | with_reducible exact HSS.out _ ((Below.refl _ _).alloc (by simp) _) | with_reducible exact HSS.out _ (((Below.refl _ _).alloc (by simp) _).alloc (by simp <;> omega) _) | with_reducible exact HSS.out _ ((((Below.refl _ _).alloc (by simp) _).alloc (by simp <;> omega) _).alloc (by simp <;> omega) _) | with_reducible exact HSS.out _ (((((Below.refl _ _).alloc (by simp) _).alloc (by simp <;> omega) _).alloc (by simp <;> omega) _).alloc (by simp <;> omega) _) | with_reducible exact HSS.out _ ((((((Below.refl _ _).alloc (by simp) _).alloc (by simp <;> omega) _).alloc (by simp <;> omega) _).alloc (by simp <;> omega) _).alloc (by simp <;> omega) _) | with_reducible exact HSS.out _ (((((((Below.refl _ _).alloc (by simp) _).alloc (by simp <;> omega) _).alloc (by simp <;> omega) _).alloc (by simp <;> omega) _).alloc (by simp <;> omega) _).alloc (by simp <;> omega) _) | with_reducible exact HSS.out _ ((((((((Below.refl _ _).alloc (by simp) _).alloc (by simp <;> omega) _).alloc (by simp <;> omega) _).alloc (by simp <;> omega) _).alloc (by simp <;> omega) _).alloc (by simp <;> omega) _).alloc (by simp <;> omega) _) | fail)
      (first
       | (go_at_call 22; (with_reducible refine (num_exact _ _).mono ?_); rintro e3 w3 ⟨rfl, rfl⟩)
       | fail)
     all_goals
      go_wp2_with fail
      go_meet
      case rel =>
       refine ⟨_, all_rel rfl (all_var_ex HL12.out ?_ ?_)⟩
       ·(first | exact ((((((((Below.refl _ _).alloc (by simp) _).alloc (by simp <;> omega) _).alloc (by simp <;> omega) _).alloc (by simp <;> omega) _).alloc (by simp <;> omega) _).alloc (by simp <;> omega) _).alloc (by simp <;> omega) _) | exact (((((((Below.refl _ _).alloc (by simp) _).alloc (by simp <;> omega) _).alloc (by simp <;> omega) _).alloc (by simp <;> omega) _).alloc (by simp <;> omega) _).alloc (by simp <;> omega) _) | exact ((((((Below.refl _ _).alloc (by simp) _).alloc (by simp <;> omega) _).alloc (by simp <;> omega) _).alloc (by simp <;> omega) _).alloc (by simp <;> omega) _) | exact (((((Below.refl _ _).alloc (by simp) _).alloc (by simp <;> omega) _).alloc (by simp <;> omega) _).alloc (by simp <;> omega) _) | exact ((((Below.refl _ _).alloc (by simp) _).alloc (by simp <;> omega) _).alloc (by simp <;> omega) _) | exact (((Below.refl _ _).alloc (by simp) _).alloc (by simp <;> omega) _) | exact ((Below.refl _ _).alloc (by simp) _))
       ·first
        | exact ⟨w12.heap.size + 1, by (first | exact heap_new (by simp) | (refine (heap_alloc_old _ _ (by simp <;> omega)).trans ?_; (first | exact heap_new (by simp) | (refine (heap_alloc_old _ _ (by simp <;> omega)).trans ?_; (first | exact heap_new (by simp) | (refine (heap_alloc_old _ _ (by simp <;> omega)).trans ?_; (first | exact heap_new (by simp) | (refine (heap_alloc_old _ _ (by simp <;> omega)).trans ?_; (first | exact heap_new (by simp) | (refine (heap_alloc_old _ _ (by simp <;> omega)).trans ?_; (first | exact heap_new (by simp) | (refine (heap_alloc_old _ _ (by simp <;> omega)).trans ?_; (first | exact heap_new (by simp) | (refine (heap_alloc_old _ _ (by simp <;> omega)).trans ?_; exact heap_new (by simp))))))))))))))), by (first | exact heap_new (by simp) | (refine (heap_alloc_old _ _ (by simp <;> omega)).trans ?_; (first | exact heap_new (by simp) | (refine (heap_alloc_old _ _ (by simp <;> omega)).trans ?_; (first | exact heap_new (by simp) | (refine (heap_alloc_old _ _ (by simp <;> omega)).trans ?_; (first | exact heap_new (by simp) | (refine (heap_alloc_old _ _ (by simp <;> omega)).trans ?_; (first | exact heap_new (by simp) | (refine (heap_alloc_old _ _ (by simp <;> omega)).trans ?_; (first | exact heap_new (by simp) | (refine (heap_alloc_old _ _ (by simp <;> omega)).trans ?_; (first | exact heap_new (by simp) | (refine (heap_alloc_old _ _ (by simp <;> omega)).trans ?_; exact heap_new (by simp)))))))))))))))⟩
        | exact ⟨w12.heap.size + 1 + 1, by (first | exact heap_new (by simp) | (refine (heap_alloc_old _ _ (by simp <;> omega)).trans ?_; (first | exact heap_new (by simp) | (refine (heap_alloc_old _ _ (by simp <;> omega)).trans ?_; (first | exact heap_new (by simp) | (refine (heap_alloc_old _ _ (by simp <;> omega)).trans ?_; (first | exact heap_new (by simp) | (refine (heap_alloc_old _ _ (by simp <;> omega)).trans ?_; (first | exact heap_new (by simp) | (refine (heap_alloc_old _ _ (by simp <;> omega)).trans ?_; (first | exact heap_new (by simp) | (refine (heap_alloc_old _ _ (by simp <;> omega)).trans ?_; (first | exact heap_new (by simp) | (refine (heap_alloc_old _ _ (by simp <;> omega)).trans ?_; exact heap_new (by simp))))))))))))))), by (first | exact heap_new (by simp) | (refine (heap_alloc_old _ _ (by simp <;> omega)).trans ?_; (first | exact heap_new (by simp) | (refine (heap_alloc_old _ _ (by simp <;> omega)).trans ?_; (first | exact heap_new (by simp) | (refine (heap_alloc_old _ _ (by simp <;> omega)).trans ?_; (first | exact heap_new (by simp) | (refine (heap_alloc_old _ _ (by simp <;> omega)).trans ?_; (first | exact heap_new (by simp) | (refine (heap_alloc_old _ _ (by simp <;> omega)).trans ?_; (first | exact heap_new (by simp) | (refine (heap_alloc_old _ _ (by simp <;> omega)).trans ?_; (first | exact heap_new (by simp) | (refine (heap_alloc_old _ _ (by simp <;> omega)).trans ?_; exact heap_new (by simp)))))))))))))))⟩
        | exact ⟨w12.heap.size, by (first | exact heap_new (by simp) | (refine (heap_alloc_old _ _ (by simp <;> omega)).trans ?_; (first | exact heap_new (by simp) | (refine (heap_alloc_old _ _ (by simp <;> omega)).trans ?_; (first | exact heap_new (by simp) | (refine (heap_alloc_old _ _ (by simp <;> omega)).trans ?_; (first | exact heap_new (by simp) | (refine (heap_alloc_old _ _ (by simp <;> omega)).trans ?_; (first | exact heap_new (by simp) | (refine (heap_alloc_old _ _ (by simp <;> omega)).trans ?_; (first | exact heap_new (by simp) | (refine (heap_alloc_old _ _ (by simp <;> omega)).trans ?_; (first | exact heap_new (by simp) | (refine (heap_alloc_old _ _ (by simp <;> omega)).trans ?_; exact heap_new (by simp))))))))))))))), by (first | exact heap_new (by simp) | (refine (heap_alloc_old _ _ (by simp <;> omega)).trans ?_; (first | exact heap_new (by simp) | (refine (heap_alloc_old _ _ (by simp <;> omega)).trans ?_; (first | exact heap_new (by simp) | (refine (heap_alloc_old _ _ (by simp <;> omega)).trans ?_; (first | exact heap_new (by simp) | (refine (heap_alloc_old _ _ (by simp <;> omega)).trans ?_; (first | exact heap_new (by simp) | (refine (heap_alloc_old _ _ (by simp <;> omega)).trans ?_; (first | exact heap_new (by simp) | (refine (heap_alloc_old _ _ (by simp <;> omega)).trans ?_; (first | exact heap_new (by simp) | (refine (heap_alloc_old _ _ (by simp <;> omega)).trans ?_; exact heap_new (by simp)))))))))))))))⟩
    case rest =>
     obtain ⟨g14, k14, rfl, HA14⟩ := hcut
     clear HSS l3
     have hb14 : wc.heap[g14]? = some (.cells #[.int .i64 6, .string ⟨#[]⟩, .slice none 0 0, .int .i64 0, .int .i64 0, .string ⟨#[]⟩, .slice none 0 0, .slice (some ⟨k14, 0, none⟩) 2 2] 28 (0, 0)) := HA14.out.blk
     obtain ⟨x0, x1, x2, x3, x4, x5, x6, x7, xl⟩ := Row.of hb14
     clear hb14
     go_upto_region 15 with (first
      | (go_at_call 18; (with_reducible refine (box_counts HN.out HF1.out HF2.out HA14.out.ex).mono ?_); rintro e2 w15 ⟨⟨ye, yn, yd, yk⟩, hye, rfl, hex, hb⟩; obtain ⟨yna, ync, yda, ydn, ydc, yka, ykc, v1, v2, v3, hop⟩ := op_of hex; dsimp only at hye v1 v2 v3 hop; subst v1 v2 v3; unfold XM.val exV; dsimp only; have HYE := hid hye; have HOP := hid hop; have HA15 := hid (HA14.out.bel hb); clear hye hop hex hb)
      | fail)
     obtain ⟨w16, B16⟩ := boxedE w15 ye yna ync yda ydn ydc yka ykc
     rw [← B16.eq]
     have HA16 := hid (HA15.out.bel B16.below)
     have HOP16 := hid (HOP.out.bel B16.below)
     have HKY := hid B16.blk
     clear B16 x0 x1 x2 x3 x4 x5 x6 x7 xl
     have hS : ∀ w', Below w16.heap.size w16 w' → (w'.cell? ⟨g14, 0, none⟩ = some (.int .i64 6) ∧ w'.cell? ⟨g14, 1, none⟩ = some (.string ⟨#[]⟩) ∧ w'.cell? ⟨g14, 2, none⟩ = some (.slice none 0 0) ∧ w'.cell? ⟨g14, 3, none⟩ = some (.int .i64 0) ∧ w'.cell? ⟨g14, 4, none⟩ = some (.int .i64 0) ∧ w'.cell? ⟨g14, 5, none⟩ = some (.string ⟨#[]⟩) ∧ w'.cell? ⟨g14, 6, none⟩ = some (.slice none 0 0) ∧ w'.cell? ⟨g14, 7, none⟩ = some (.slice (some ⟨k14, 0, none⟩) 2 2) ∧ w'.cell? ⟨w15.heap.size, 0, none⟩ = some (.int .i64 ye.kind) ∧ w'.cell? ⟨w15.heap.size, 1, none⟩ = some (.string ye.name) ∧ w'.cell? ⟨w15.heap.size, 2, none⟩ = some (.slice yna ye.names.length ync) ∧ w'.cell? ⟨w15.heap.size, 3, none⟩ = some (.int .i64 ye.const.kind) ∧ w'.cell? ⟨w15.heap.size, 4, none⟩ = some (.int .i64 ye.const.int) ∧ w'.cell? ⟨w15.heap.size, 5, none⟩ = some (.string ye.const.text) ∧ w'.cell? ⟨w15.heap.size, 6, none⟩ = some (.slice yda ydn ydc) ∧ w'.cell? ⟨w15.heap.size, 7, none⟩ = some (.slice yka ye.kids.length ykc)) := fun w' hb => by
      have h1 := (Row.of HA16.out.blk).bel hb
      have h2 := (Row.of HKY.out).bel hb
      exact ⟨h1.c0, h1.c1, h1.c2, h1.c3, h1.c4, h1.c5, h1.c6, h1.c7, h2.c0, h2.c1, h2.c2, h2.c3, h2.c4, h2.c5, h2.c6, h2.c7⟩
     have HSS := hid hS
     have HBD : Hid (Below w16.heap.size w16 w16.drew) := (Below.refl _ _).drew
     have HSD : Hid (w16.drew.cell? ⟨g14, 0, none⟩ = some (.int .i64 6) ∧ w16.drew.cell? ⟨g14, 1, none⟩ = some (.string ⟨#[]⟩) ∧ w16.drew.cell? ⟨g14, 2, none⟩ = some (.slice none 0 0) ∧ w16.drew.cell? ⟨g14, 3, none⟩ = some (.int .i64 0) ∧ w16.drew.cell? ⟨g14, 4, none⟩ = some (.int .i64 0) ∧ w16.drew.cell? ⟨g14, 5, none⟩ = some (.string ⟨#[]⟩) ∧ w16.drew.cell? ⟨g14, 6, none⟩ = some (.slice none 0 0) ∧ w16.drew.cell? ⟨g14, 7, none⟩ = some (.slice (some ⟨k14, 0, none⟩) 2 2) ∧ w16.drew.cell? ⟨w15.heap.size, 0, none⟩ = some (.int .i64 ye.kind) ∧ w16.drew.cell? ⟨w15.heap.size, 1, none⟩ = some (.string ye.name) ∧ w16.drew.cell? ⟨w15.heap.size, 2, none⟩ = some (.slice yna ye.names.length ync) ∧ w16.drew.cell? ⟨w15.heap.size, 3, none⟩ = some (.int .i64 ye.const.kind) ∧ w16.drew.cell? ⟨w15.heap.size, 4, none⟩ = some (.int .i64 ye.const.int) ∧ w16.drew.cell? ⟨w15.heap.size, 5, none⟩ = some (.string ye.const.text) ∧ w16.drew.cell? ⟨w15.heap.size, 6, none⟩ = some (.slice yda ydn ydc) ∧ w16.drew.cell? ⟨w15.heap.size, 7, none⟩ = some (.slice yka ye.kids.length ykc)) := HSS.out _ HBD.out
     have l4 : g14 < w16.heap.size := (Array.getElem?_eq_some_iff.1 HA16.out.blk).1
     have l5 : w15.heap.size < w16.heap.size := (Array.getElem?_eq_some_iff.1 HKY.out).1
     have gfn : IntKind.i64.wrap (f + (j : Int)) = f + (j : Int) := by rw [IntKind.wrap_i64]; have := HN.out; have := HF1.out; have := HF2.out; omega
     clear hS
     go_region_held3 (fun w' => w'.cell? ⟨g14, 0, none⟩ = some (.int .i64 6) ∧ w'.cell? ⟨g14, 1, none⟩ = some (.string ⟨#[]⟩) ∧ w'.cell? ⟨g14, 2, none⟩ = some (.slice none 0 0) ∧ w'.cell? ⟨g14, 3, none⟩ = some (.int .i64 0) ∧ w'.cell? ⟨g14, 4, none⟩ = some (.int .i64 0) ∧ w'.cell? ⟨g14, 5, none⟩ = some (.string ⟨#[]⟩) ∧ w'.cell? ⟨g14, 6, none⟩ = some (.slice none 0 0) ∧ w'.cell? ⟨g14, 7, none⟩ = some (.slice (some ⟨k14, 0, none⟩) 2 2) ∧ w'.cell? ⟨w15.heap.size, 0, none⟩ = some (.int .i64 ye.kind) ∧ w'.cell? ⟨w15.heap.size, 1, none⟩ = some (.string ye.name) ∧ w'.cell? ⟨w15.heap.size, 2, none⟩ = some (.slice yna ye.names.length ync) ∧ w'.cell? ⟨w15.heap.size, 3, none⟩ = some (.int .i64 ye.const.kind) ∧ w'.cell? ⟨w15.heap.size, 4, none⟩ = some (.int .i64 ye.const.int) ∧ w'.cell? ⟨w15.heap.size, 5, none⟩ = some (.string ye.const.text) ∧ w'.cell? ⟨w15.heap.size, 6, none⟩ = some (.slice yda ydn ydc) ∧ w'.cell? ⟨w15.heap.size, 7, none⟩ = some (.slice yka ye.kids.length ykc))
      (first | with_reducible exact HSwc.out | with_reducible exact HSwb.out | with_reducible exact HSwa.out | with_reducible exact HSD.out | exact HSD.out | fail)
      (first
       | (go_at_call 20; (with_reducible refine (told_counts HYE.out HN.out HF1.out HF2.out (HA16.out.bel HBD.out).ex (HOP16.out.bel HBD.out)).mono ?_); rintro e2 wa ⟨rfl, hb⟩; have HBwa : Hid (Below w16.heap.size w16 wa) := HBD.out.trans (hb.mono HBD.out.size); have HSwa := hid (HSS.out _ HBwa.out); clear hb)
       | (go_at_call 22; (with_reducible refine (num_any _ wa).mono ?_); rintro e2 wb ⟨rfl, hb⟩; have HBwb : Hid (Below w16.heap.size w16 wb) := HBwa.out.trans (hb.mono HBwa.out.size); have HSwb := hid (HSS.out _ HBwb.out); clear hb)
       | (go_at_call 17; (with_reducible refine (means_counts HYE.out HN.out HF1.out HF2.out (HOP16.out.bel HBwb.out)).mono ?_); rintro e2 wc ⟨rfl, hb⟩; have HBwc : Hid (Below w16.heap.size w16 wc) := HBwb.out.trans (hb.mono HBwb.out.size); have HSwc := hid (HSS.out _ HBwc.out); clear hb)
       | fail)
     all_goals
      go_wp2_with fail
      go_ret
      exact ⟨rfl, HB2.out.trans ((HA16.out.below.trans (HBwc.out.mono HA16.out.below.size)).mono HB2.out.size)⟩
set_option maxHeartbeats 8000000 in
theorem counts_out (n f : Int) (w : World) (h : n < 0 ∨ (0 ≤ n ∧ 30 < n) ∨ (0 ≤ n ∧ n ≤ 30 ∧ f < -1000) ∨ (0 ≤ n ∧ n ≤ 30 ∧ -1000 ≤ f ∧ 1000 < f)) : Calls Tryz.prog 8 #[.int .i64 n, .int .i64 f] w (Says (.bool true) w) := by
 have key : ∀ b1 b2 b3 b4 : Bool, decide (n < 0) = b1 → decide ((30 : Int) < n) = b2 → decide (f < -1000) = b3 → decide ((1000 : Int) < f) = b4 → (b1 || b2 || b3 || b4) = true → Calls Tryz.prog 8 #[.int .i64 n, .int .i64 f] w (Says (.bool true) w) := by
  intro b1 b2 b3 b4 q1 q2 q3 q4 hq
  clear h
  cases b1
  all_goals (try cases b2)
  all_goals (try cases b3)
  all_goals (try cases b4)
  all_goals first
   | (cases hq; done)
   | (
     clear hq
     go_enter Tryz.func8, Tryz.ntmps8
     go_wp2_with (first
      | (go_at_call 19; (first | ((with_reducible refine (fixed11_any w).mono ?_); rintro e2 w2 ⟨rfl, hb⟩; have HB2 := hid hb; clear hb) | ((with_reducible refine (fixed11_any w2).mono ?_); rintro e2 w3 ⟨rfl, hb⟩; have HB3 : Hid (Below w.heap.size w w3) := HB2.out.trans (hb.mono HB2.out.size); clear hb)))
      | fail)
     go_ret
     exact ⟨rfl, HB3.out⟩)
 refine key _ _ _ _ rfl rfl rfl rfl ?_
 simp only [Bool.or_eq_true, decide_eq_true_eq]
 omega
theorem boxedCounts_any (n f : Int) (w : World) : Calls Tryz.prog 8 #[.int .i64 n, .int .i64 f] w fun en w' => en = .returned (.bool true) ∧ Below w.heap.size w w' := by
 by_cases h : 0 ≤ n ∧ n ≤ 30 ∧ -1000 ≤ f ∧ f ≤ 1000
 ·obtain ⟨N, rfl⟩ : ∃ N : Nat, n = N := ⟨n.toNat, by omega⟩
  exact counts_in N f w (by omega) h.2.2.1 h.2.2.2
 ·exact counts_out n f w (by omega)
end Ew
end Go.Proofs.YtkplkgdfphbldaaGreat
