/- Runs, plainly. -/
import Derived.Test.YtdmfogmgjmdaeaaBJbb
import Derived.Test.YtdmfogmgjmdaeaaBJae
import Derived.Test.YtdmfogmgjmdaeaaBJax
import Derived.Test.YtdmfogmgjmdaeaaBJac
set_option linter.unusedVariables false
set_option linter.unusedSimpArgs false
set_option linter.unnecessarySimpa false
namespace Go.Proofs.Ytdmfogmgjmdaeaa
open Go.RowKit
set_option maxRecDepth 100000
set_option linter.unusedSimpArgs false
set_option linter.unusedVariables false
namespace Rs
def noImage (code mem : List Int) (words steps : Int) : Prop := words < 0 ∨ 1048576 < words ∨ 1048576 < code.length ∨ words < mem.length ∨ steps < 0
instance (code mem : List Int) (words steps : Int) : Decidable (noImage code mem words steps) := by unfold noImage; exact inferInstance
def start (mem : List Int) (words : Int) (inp : List UInt8) : M := ⟨0, 0, 0, List.replicate 32 0, mem ++ List.replicate (words.toNat - mem.length) 0, inp, []⟩
def run (code mem : List Int) (words : Int) (inp : List UInt8) (steps : Int) : M × Int := go code steps.toNat (start mem words inp)
def halt (st : Int) (m : M) (mv : Value) : List Value :=
  .int .i64 st :: .int .i64 m.value :: .string ⟨m.out.toArray⟩ :: .int .i64 m.steps :: .int .i64 m.pc :: (m.regs.map (Value.int .i64) ++ [mv])
structure Inv (code : List Int) (lim : Int) (m : M) : Prop where
  ok : Ok m
  s0 : 0 ≤ m.steps
  s1 : m.steps ≤ lim
  out : m.out.length ≤ m.steps
theorem setReg_out (m : M) (r v : Int) : (setReg m r v).out = m.out ∧ (setReg m r v).steps = m.steps := by unfold setReg; split <;> exact ⟨rfl, rfl⟩
theorem exec_steps {op a b c n : Int} {m : M} (h : (exec op a b c n m).2 = 6) : (exec op a b c n m).1.steps = m.steps + 1 ∧ ((exec op a b c n m).1.out.length : Int) ≤ m.out.length + 1 := by
  have key : ∀ r, exec op a b c n m = r → r.2 = 6 → r.1.steps = m.steps + 1 ∧ (r.1.out.length : Int) ≤ m.out.length + 1 := by
    intro r hr h6
    unfold exec at hr
    dsimp only at hr
    repeat' split at hr
    all_goals subst hr
    all_goals first
      | (simp at h6; done)
      | (refine ⟨by simp [adv, setReg_out], ?_⟩; simp [adv, setReg_out] <;> omega)
  exact key _ rfl h
theorem start_ok {mem : List Int} {words : Int} {inp : List UInt8} (hm : ∀ x ∈ mem, InR x) (h0 : 0 ≤ words) (h1 : words ≤ 1048576) (h2 : (mem.length : Int) ≤ words) : Ok (start mem words inp) := by
  refine ⟨by simp [start], fun x hx => ?_, fun x hx => ?_, by simp [start]; omega⟩
  · have := (List.mem_replicate.1 hx).2; rw [this]; exact InR.zero
  · rcases List.mem_append.1 hx with h | h
    · exact hm x h
    · have := (List.mem_replicate.1 h).2; rw [this]; exact InR.zero
end Rs
theorem three_made (w : World) (c1 c2 c3 : Array Value) (t1 t2 t3 : TypeId) {W : World} (h : ((w.alloc (.cells c1 t1)).alloc (.cells c2 t2)).alloc (.cells c3 t3) = W) :
    W.heap[w.heap.size]? = some (.cells c1 t1 (0, 0)) ∧ W.heap[w.heap.size + 1]? = some (.cells c2 t2 (0, 0)) ∧ W.heap[w.heap.size + 1 + 1]? = some (.cells c3 t3 (0, 0)) ∧ W.heap.size = w.heap.size + 3 ∧ Below w.heap.size w W := by
  subst h
  have h3 := heap_alloc_new ((w.alloc (.cells c1 t1)).alloc (.cells c2 t2)) (.cells c3 t3)
  have e3 : ((w.alloc (.cells c1 t1)).alloc (.cells c2 t2)).heap.size = w.heap.size + 1 + 1 := by simp
  rw [e3] at h3
  have h2 := heap_alloc_new (w.alloc (.cells c1 t1)) (.cells c2 t2)
  have e2 : (w.alloc (.cells c1 t1)).heap.size = w.heap.size + 1 := by simp
  rw [e2] at h2
  have h1 := heap_alloc_new w (.cells c1 t1)
  have k2 := ((Below.refl ((w.alloc (.cells c1 t1)).alloc (.cells c2 t2)).heap.size ((w.alloc (.cells c1 t1)).alloc (.cells c2 t2))).alloc (Nat.le_refl _) (.cells c3 t3)).block
  have k1 := ((Below.refl (w.alloc (.cells c1 t1)).heap.size (w.alloc (.cells c1 t1))).alloc (Nat.le_refl _) (.cells c2 t2)).block
  refine ⟨?_, ?_, h3, by simp, (((Below.refl _ _).alloc (Nat.le_refl _) _).alloc (by simp) _).alloc (by simp; omega) _⟩
  · rw [k2 w.heap.size (by rw [e3]; omega), k1 w.heap.size (by rw [e2]; omega)]; exact h1
  · rw [k2 (w.heap.size + 1) (by rw [e3]; omega)]; exact h2
end Go.Proofs.Ytdmfogmgjmdaeaa
namespace Go.Proofs.Ytdmfogmgjmdaeaa
open Go.RowKit
set_option maxRecDepth 100000
set_option linter.unusedSimpArgs false
set_option linter.unusedVariables false
namespace Rs
theorem parts0 : ∀ k : Fin 32, form ((k : Nat) : Int) = 0 → nmod ((k : Nat) : Int) = 1 ∧ hasB ((k : Nat) : Int) = false ∧ hasC ((k : Nat) : Int) = false ∧ least ((k : Nat) : Int) = 0 ∧ most ((k : Nat) : Int) = 0 := by decide +kernel
theorem parts1 : ∀ k : Fin 32, form ((k : Nat) : Int) = 1 → nmod ((k : Nat) : Int) = 1 ∧ hasB ((k : Nat) : Int) = true ∧ hasC ((k : Nat) : Int) = true ∧ least ((k : Nat) : Int) = 0 ∧ most ((k : Nat) : Int) = 0 := by decide +kernel
theorem parts2 : ∀ k : Fin 32, form ((k : Nat) : Int) = 2 → nmod ((k : Nat) : Int) = 65536 ∧ hasB ((k : Nat) : Int) = true ∧ hasC ((k : Nat) : Int) = false ∧ ((least ((k : Nat) : Int) = -32768 ∧ most ((k : Nat) : Int) = 32767) ∨ (least ((k : Nat) : Int) = 0 ∧ most ((k : Nat) : Int) ≤ 65535)) := by decide +kernel
theorem parts3 : ∀ k : Fin 32, form ((k : Nat) : Int) = 3 → nmod ((k : Nat) : Int) = 65536 ∧ hasB ((k : Nat) : Int) = false ∧ hasC ((k : Nat) : Int) = false ∧ ((least ((k : Nat) : Int) = -32768 ∧ most ((k : Nat) : Int) = 32767) ∨ (least ((k : Nat) : Int) = 0 ∧ most ((k : Nat) : Int) ≤ 65535)) := by decide +kernel
theorem parts4 : ∀ k : Fin 32, form ((k : Nat) : Int) = 4 → nmod ((k : Nat) : Int) = 1024 ∧ hasB ((k : Nat) : Int) = true ∧ hasC ((k : Nat) : Int) = false ∧ least ((k : Nat) : Int) = -512 ∧ most ((k : Nat) : Int) = 511 := by decide +kernel
theorem parts5 : ∀ k : Fin 32, form ((k : Nat) : Int) = 5 → nmod ((k : Nat) : Int) = 2097152 ∧ hasB ((k : Nat) : Int) = false ∧ hasC ((k : Nat) : Int) = false ∧ least ((k : Nat) : Int) = -1048576 ∧ most ((k : Nat) : Int) = 1048575 := by decide +kernel
theorem parts6 : ∀ k : Fin 32, form ((k : Nat) : Int) = 6 → nmod ((k : Nat) : Int) = 1 ∧ hasB ((k : Nat) : Int) = true ∧ hasC ((k : Nat) : Int) = false ∧ least ((k : Nat) : Int) = 0 ∧ most ((k : Nat) : Int) = 0 := by decide +kernel
theorem form_parts {op : Int} : (form op = 0 → nmod op = 1 ∧ hasB op = false ∧ hasC op = false ∧ least op = 0 ∧ most op = 0) ∧
    (form op = 1 → nmod op = 1 ∧ hasB op = true ∧ hasC op = true ∧ least op = 0 ∧ most op = 0) ∧
    (form op = 2 → nmod op = 65536 ∧ hasB op = true ∧ hasC op = false ∧ ((least op = -32768 ∧ most op = 32767) ∨ (least op = 0 ∧ most op ≤ 65535))) ∧
    (form op = 3 → nmod op = 65536 ∧ hasB op = false ∧ hasC op = false ∧ ((least op = -32768 ∧ most op = 32767) ∨ (least op = 0 ∧ most op ≤ 65535))) ∧
    (form op = 4 → nmod op = 1024 ∧ hasB op = true ∧ hasC op = false ∧ least op = -512 ∧ most op = 511) ∧
    (form op = 5 → nmod op = 2097152 ∧ hasB op = false ∧ hasC op = false ∧ least op = -1048576 ∧ most op = 1048575) ∧
    (form op = 6 → nmod op = 1 ∧ hasB op = true ∧ hasC op = false ∧ least op = 0 ∧ most op = 0) := by
  by_cases h : form op = 7
  · rw [h]; simp
  · obtain ⟨h1, h2⟩ := form_range op h
    obtain ⟨k, rfl⟩ : ∃ k : Nat, op = k := ⟨op.toNat, by omega⟩
    have hk : k < 32 := by omega
    exact ⟨parts0 ⟨k, hk⟩, parts1 ⟨k, hk⟩, parts2 ⟨k, hk⟩, parts3 ⟨k, hk⟩, parts4 ⟨k, hk⟩, parts5 ⟨k, hk⟩, parts6 ⟨k, hk⟩⟩
theorem enc_fields {op a b c n : Int} (h : ¬ Bad op a b c n) : 0 ≤ enc op a b c n ∧ enc op a b c n < 4294967296 ∧ fO (enc op a b c n) = op ∧ fA (enc op a b c n) = a ∧ fB op (enc op a b c n) = b ∧ fC op (enc op a b c n) = c ∧ fN op (enc op a b c n) = n := by
  have h' := h
  unfold Bad at h'
  simp only [not_or, Bool.not_eq_false, Int.not_lt] at h'
  obtain ⟨h7, ha, hb, hc, hB, hC, hn1, hn2⟩ := h'
  replace hB : form op = 0 ∨ form op = 3 ∨ form op = 5 → b = 0 := fun h => by by_cases hb : b = 0; exact hb; exact absurd ⟨h, hb⟩ hB
  replace hC : form op ≠ 1 → c = 0 := fun h => by by_cases hc : c = 0; exact hc; exact absurd ⟨h, hc⟩ hC
  obtain ⟨o1, o2⟩ := form_range op h7
  obtain ⟨a1, a2⟩ := isReg_range ha
  obtain ⟨b1, b2⟩ := isReg_range hb
  obtain ⟨c1, c2⟩ := isReg_range hc
  obtain ⟨p0, p1, p2, p3, p4, p5, p6⟩ := @form_parts op
  have key : ∀ (N : Int) (B C : Bool), nmod op = N → hasB op = B → hasC op = C → (B = false → b = 0) → (C = false → c = 0) →
      (N = 1 ∨ N = 65536 ∨ N = 1024 ∨ (N = 2097152 ∧ b = 0 ∧ B = false)) → (N = 1 ∨ C = false) →
      ((least op = 0 ∧ most op < N) ∨ (least op < 0 ∧ -N ≤ 2 * least op ∧ 2 * most op + 2 = N)) →
      0 ≤ enc op a b c n ∧ enc op a b c n < 4294967296 ∧ fO (enc op a b c n) = op ∧ fA (enc op a b c n) = a ∧ fB op (enc op a b c n) = b ∧ fC op (enc op a b c n) = c ∧ fN op (enc op a b c n) = n := by
    intro N B C hN hBb hCc hb0 hc0 hNs hNC hr
    unfold fO fA fB fC fN
    rw [hBb, hCc, hN]
    unfold enc
    rw [hN]
    have hx : n % N = if n < 0 then n + N else n := by
      rcases hNs with rfl | rfl | rfl | ⟨rfl, -, -⟩ <;> split <;> omega
    have hcz : N ≠ 1 → c = 0 := fun h => hc0 (hNC.resolve_left h)
    have hm : (op * 67108864 + a * 2097152 + b * 65536 + c * 2048 + n % N) % N = n % N := by
      rcases hNs with rfl | rfl | rfl | ⟨rfl, h1, -⟩ <;> omega
    have hm0 : 0 ≤ n % N ∧ n % N < N := by rcases hNs with rfl | rfl | rfl | ⟨rfl, -, -⟩ <;> omega
    rw [hm]
    refine ⟨?_, ?_, ?_, ?_, ?_, ?_, ?_⟩
    · omega
    · rcases hNs with rfl | rfl | rfl | ⟨rfl, h1, -⟩ <;> omega
    · rcases hNs with rfl | rfl | rfl | ⟨rfl, h1, -⟩ <;> omega
    · rcases hNs with rfl | rfl | rfl | ⟨rfl, h1, -⟩ <;> omega
    · cases B
      · rw [hb0 rfl]; rfl
      · rw [if_pos rfl]
        rcases hNs with rfl | rfl | rfl | ⟨rfl, h1, h2⟩
        · omega
        · omega
        · omega
        · cases h2
    · cases C
      · rw [hc0 rfl]; rfl
      · rw [if_pos rfl]
        rcases hNC with rfl | h2
        · omega
        · cases h2
    · rw [hx]
      split <;> split <;> omega
  rcases form_8 op with hf | hf | hf | hf | hf | hf | hf | hf
  · obtain ⟨q1, q2, q3, q4, q5⟩ := p0 hf
    exact key _ _ _ q1 q2 q3 (fun _ => hB (.inl hf)) (fun _ => hC (by omega)) (.inl rfl) (.inl rfl) (.inl ⟨q4, by omega⟩)
  · obtain ⟨q1, q2, q3, q4, q5⟩ := p1 hf
    exact key _ _ _ q1 q2 q3 (fun h => by cases h) (fun h => by cases h) (.inl rfl) (.inl rfl) (.inl ⟨q4, by omega⟩)
  · obtain ⟨q1, q2, q3, q4⟩ := p2 hf
    exact key _ _ _ q1 q2 q3 (fun h => by cases h) (fun _ => hC (by omega)) (.inr (.inl rfl)) (.inr rfl) (by omega)
  · obtain ⟨q1, q2, q3, q4⟩ := p3 hf
    exact key _ _ _ q1 q2 q3 (fun _ => hB (.inr (.inl hf))) (fun _ => hC (by omega)) (.inr (.inl rfl)) (.inr rfl) (by omega)
  · obtain ⟨q1, q2, q3, q4⟩ := p4 hf
    exact key _ _ _ q1 q2 q3 (fun h => by cases h) (fun _ => hC (by omega)) (.inr (.inr (.inl rfl))) (.inr rfl) (by omega)
  · obtain ⟨q1, q2, q3, q4⟩ := p5 hf
    have hb0 : b = 0 := hB (.inr (.inr hf))
    exact key _ _ _ q1 q2 q3 (fun _ => hb0) (fun _ => hC (by omega)) (.inr (.inr (.inr ⟨rfl, hb0, rfl⟩))) (.inr rfl) (by omega)
  · obtain ⟨q1, q2, q3, q4, q5⟩ := p6 hf
    exact key _ _ _ q1 q2 q3 (fun h => by cases h) (fun _ => hC (by omega)) (.inl rfl) (.inl rfl) (.inl ⟨q4, by omega⟩)
  · exact absurd hf h7
theorem setReg_facts (m : M) (r v : Int) : (setReg m r v).steps = m.steps ∧ (setReg m r v).mem = m.mem ∧ (setReg m r v).regs.length = m.regs.length ∧ (m.regs.getD 0 0 = 0 → 0 ≤ r → (setReg m r v).regs.getD 0 0 = 0) := by
  unfold setReg
  split
  · exact ⟨rfl, rfl, rfl, fun h _ => h⟩
  · refine ⟨rfl, rfl, by simp, fun h hr => ?_⟩
    obtain ⟨k, hk⟩ : ∃ k, r.toNat = k + 1 := ⟨r.toNat - 1, by omega⟩
    rw [hk]
    cases hm : m.regs with
    | nil => rfl
    | cons x l => rw [hm] at h; simpa using h
end Rs
end Go.Proofs.Ytdmfogmgjmdaeaa
namespace Go.Proofs.Ytdmfogmgjmdaeaa
open Go.RowKit
set_option maxRecDepth 100000
set_option linter.unusedVariables false
set_option linter.unusedSimpArgs false
namespace Rs
def nSt (j : Int) (rs : List Int) : M := ⟨0, j, j, rs, [], [], []⟩
end Rs
end Go.Proofs.Ytdmfogmgjmdaeaa
namespace Go.Proofs.Ytdmfogmgjmdaeaa
open Go.RowKit
set_option maxRecDepth 100000
set_option linter.unusedVariables false
set_option linter.unusedSimpArgs false
namespace As
theorem encW_range (op a b c n : Int) : 0 ≤ Rs.encW op a b c n ∧ Rs.encW op a b c n < 4294967296 := by
  by_cases h : Rs.Bad op a b c n
  · rw [show Rs.encW op a b c n = 0 from if_pos h]; omega
  · rw [show Rs.encW op a b c n = _ from if_neg h]
    exact ⟨(Rs.enc_fields h).1, (Rs.enc_fields h).2.1⟩
theorem tailP_range (r n : Int) : ∀ (k : Nat), ∀ z ∈ tailP r n k, 0 ≤ z ∧ z < 4294967296
  | 0, z, hz => by simp [tailP] at hz
  | k + 1, z, hz => by
    rcases List.mem_cons.1 hz with rfl | h
    · exact encW_range _ _ _ _ _
    · exact tailP_range r n k z h
theorem number_range (r n : Int) (k : Nat) : ∀ z ∈ number r n k, 0 ≤ z ∧ z < 4294967296 := by
  intro z hz
  rcases List.mem_cons.1 hz with rfl | h
  · exact encW_range _ _ _ _ _
  · exact tailP_range r n _ z h
theorem words_range (x : It) (b : Bool) (p : Nat) (f : Int) : ∀ z ∈ words x b p f, 0 ≤ z ∧ z < 4294967296 := by
  intro z hz
  unfold words at hz
  repeat' split at hz
  all_goals first
    | exact number_range _ _ _ z hz
    | (simp only [List.mem_cons, List.not_mem_nil, or_false] at hz; rcases hz with rfl | rfl <;> exact encW_range _ _ _ _ _)
    | (simp only [List.mem_cons, List.not_mem_nil, or_false] at hz; rw [hz]; exact encW_range _ _ _ _ _)
    | (simp at hz)
theorem write_range (all : List It) (ps : List Nat) : ∀ (l : List It) (bs : List Bool) (qs : List Nat), ∀ z ∈ write all ps l bs qs, 0 ≤ z ∧ z < 4294967296
  | [], _, _, z, hz => by simp [write] at hz
  | x :: l, [], _, z, hz => by simp [write] at hz
  | x :: l, b :: bs, [], z, hz => by simp [write] at hz
  | x :: l, b :: bs, q :: qs, z, hz => by
    rcases List.mem_append.1 hz with h | h
    · exact words_range _ _ _ _ z h
    · exact write_range all ps l bs qs z h
theorem code_range (l : List It) : ∀ z ∈ code l, 0 ≤ z ∧ z < 4294967296 := write_range _ _ _ _ _
end As
end Go.Proofs.Ytdmfogmgjmdaeaa
namespace Go.Proofs.Ytdmfogmgjmdaeaa
open Go.RowKit
set_option linter.unusedVariables false
set_option linter.unusedSimpArgs false
namespace Ab
open Rs
structure F where
  c : Int
  d : Int
  e : Int
deriving DecidableEq
structure Bx where
  u0 : Int
  u1 : Int
  v0 : Int
  v1 : Int
def F.ev (u v : Int) (f : F) : Int := f.c + f.d * u + f.e * v
def Bx.has (B : Bx) (u v : Int) : Prop := (B.u0 ≤ u ∧ u ≤ B.u1) ∧ (B.v0 ≤ v ∧ v ≤ B.v1)
def lo (B : Bx) (f : F) : Int := f.c + (if 0 ≤ f.d then f.d * B.u0 else f.d * B.u1) + (if 0 ≤ f.e then f.e * B.v0 else f.e * B.v1)
def hi (B : Bx) (f : F) : Int := f.c + (if 0 ≤ f.d then f.d * B.u1 else f.d * B.u0) + (if 0 ≤ f.e then f.e * B.v1 else f.e * B.v0)
theorem part_lo (d x a b : Int) (h : a ≤ x ∧ x ≤ b) : (if 0 ≤ d then d * a else d * b) ≤ d * x := by
  split
  · exact Int.mul_le_mul_of_nonneg_left h.1 ‹_›
  · exact Int.mul_le_mul_of_nonpos_left (by omega) h.2
theorem part_hi (d x a b : Int) (h : a ≤ x ∧ x ≤ b) : d * x ≤ (if 0 ≤ d then d * b else d * a) := by
  split
  · exact Int.mul_le_mul_of_nonneg_left h.2 ‹_›
  · exact Int.mul_le_mul_of_nonpos_left (by omega) h.1
theorem lo_le {B : Bx} {u v : Int} (h : B.has u v) (f : F) : lo B f ≤ f.ev u v := by
  have h1 := part_lo f.d u _ _ h.1
  have h2 := part_lo f.e v _ _ h.2
  unfold lo F.ev
  omega
theorem le_hi {B : Bx} {u v : Int} (h : B.has u v) (f : F) : f.ev u v ≤ hi B f := by
  have h1 := part_hi f.d u _ _ h.1
  have h2 := part_hi f.e v _ _ h.2
  unfold hi F.ev
  omega
def addF (x y : F) : F := ⟨x.c + y.c, x.d + y.d, x.e + y.e⟩
def subF (x y : F) : F := ⟨x.c - y.c, x.d - y.d, x.e - y.e⟩
def mulF (x : F) (k : Int) : F := ⟨x.c * k, x.d * k, x.e * k⟩
theorem ev_add (u v : Int) (x y : F) : (addF x y).ev u v = x.ev u v + y.ev u v := by unfold addF F.ev; simp only [Int.add_mul]; omega
theorem ev_sub (u v : Int) (x y : F) : (subF x y).ev u v = x.ev u v - y.ev u v := by unfold subF F.ev; simp only [Int.sub_mul]; omega
theorem ev_mul (u v k : Int) (x : F) : (mulF x k).ev u v = x.ev u v * k := by
  unfold mulF F.ev
  rw [Int.add_mul, Int.add_mul, Int.mul_right_comm x.d, Int.mul_right_comm x.e]
def inr (B : Bx) (f : F) : Bool := decide (-9223372036854775808 ≤ lo B f) && decide (hi B f ≤ 9223372036854775807)
theorem inr_at {B : Bx} {u v : Int} (h : B.has u v) {f : F} (hf : inr B f = true) : wrap64 (f.ev u v) = f.ev u v := by
  unfold inr at hf
  simp only [Bool.and_eq_true, decide_eq_true_eq] at hf
  have h1 := lo_le h f
  have h2 := le_hi h f
  simp only [wrap64]
  omega
def chk (B : Bx) (f : F) : Option F := if inr B f = true then some f else none
theorem chk_at {B : Bx} {u v : Int} (h : B.has u v) {f g : F} (hf : chk B f = some g) : g = f ∧ wrap64 (f.ev u v) = f.ev u v := by
  unfold chk at hf
  split at hf
  · cases hf; exact ⟨rfl, inr_at h ‹_›⟩
  · cases hf
def conB (f : F) : Bool := decide (f.d = 0) && decide (f.e = 0)
theorem con_at {f : F} (u v : Int) (h : conB f = true) : f.ev u v = f.c := by
  unfold conB at h
  simp only [Bool.and_eq_true, decide_eq_true_eq] at h
  unfold F.ev
  rw [h.1, h.2]
  omega
def div8 (k : Int) (f : F) : Bool := decide (f.d % k = 0) && decide (f.e % k = 0)
theorem div_at {k : Int} {f : F} (u v : Int) (h : div8 k f = true) : ∃ z, f.ev u v = f.c + k * z ∧ z = (f.d / k) * u + (f.e / k) * v := by
  unfold div8 at h
  simp only [Bool.and_eq_true, decide_eq_true_eq] at h
  refine ⟨_, ?_, rfl⟩
  have h1 : k * (f.d / k) = f.d := Int.mul_ediv_cancel' (Int.dvd_of_emod_eq_zero h.1)
  have h2 : k * (f.e / k) = f.e := Int.mul_ediv_cancel' (Int.dvd_of_emod_eq_zero h.2)
  unfold F.ev
  rw [Int.mul_add, ← Int.mul_assoc, ← Int.mul_assoc, h1, h2]
  omega
def aluA (B : Bx) (op : Int) (x y : F) : Option F := if op = 1 then chk B (addF x y) else if op = 2 then chk B (subF x y) else none
def simpA (B : Bx) (op : Int) (a b n : F) : Option F :=
  if op = 15 then chk B (addF b n)
  else if op = 20 then some n
  else if conB n = true then
    if op = 16 then (if conB b = true then some ⟨bits .and .i64 b.c n.c, 0, 0⟩ else if n.c = 7 ∧ div8 8 b = true then some ⟨b.c % 8, 0, 0⟩ else none)
    else if op = 17 then (if conB b = true then some ⟨bits .or .i64 b.c n.c, 0, 0⟩ else if (0 ≤ n.c ∧ n.c < 8) ∧ (b.c % 8 = 0 ∧ inr B b = true) ∧ div8 8 b = true then some ⟨b.c + n.c, b.d, b.e⟩ else none)
    else if op = 18 then chk B (mulF b (2 ^ n.c.toNat))
    else if op = 19 then (if div8 (2 ^ n.c.toNat) b = true then some ⟨b.c / 2 ^ n.c.toNat, b.d / 2 ^ n.c.toNat, b.e / 2 ^ n.c.toNat⟩ else none)
    else if op = 21 then (if conB a = true then some ⟨bits .or .i64 (wrap64 (a.c * 65536)) n.c, 0, 0⟩ else none)
    else none
  else none
def takenA (B : Bx) (op : Int) (x y : F) : Option Bool :=
  if op = 24 then (if 0 < lo B (subF x y) ∨ hi B (subF x y) < 0 then some false else if subF x y = ⟨0, 0, 0⟩ then some true else none)
  else if op = 25 then (if 0 < lo B (subF x y) ∨ hi B (subF x y) < 0 then some true else if subF x y = ⟨0, 0, 0⟩ then some false else none)
  else if op = 26 then (if hi B (subF x y) < 0 then some true else if 0 ≤ lo B (subF x y) then some false else none)
  else (if hi B (subF x y) < 0 then some false else if 0 ≤ lo B (subF x y) then some true else none)
theorem taken_at {B : Bx} {u v : Int} (h : B.has u v) {op : Int} {x y : F} {b : Bool} (ht : takenA B op x y = some b) : takenB op (x.ev u v) (y.ev u v) = b := by
  have h1 := lo_le h (subF x y)
  have h2 := le_hi h (subF x y)
  rw [ev_sub] at h1 h2
  have hz : subF x y = ⟨0, 0, 0⟩ → x.ev u v = y.ev u v := by
    intro e
    have := ev_sub u v x y
    rw [e] at this
    unfold F.ev at this ⊢
    simp at this
    omega
  unfold takenA at ht
  unfold takenB
  split at ht
  · rw [if_pos ‹_›]
    split at ht
    · cases ht; simp; omega
    · split at ht
      · cases ht; simp [hz ‹_›]
      · cases ht
  · rw [if_neg ‹_›]
    split at ht
    · rw [if_pos ‹_›]
      split at ht
      · cases ht; simp; omega
      · split at ht
        · cases ht; simp [hz ‹_›]
        · cases ht
    · rw [if_neg ‹_›]
      split at ht
      · rw [if_pos ‹_›]
        split at ht
        · cases ht; simp; omega
        · split at ht
          · cases ht; simp; omega
          · cases ht
      · rw [if_neg ‹_›]
        split at ht
        · cases ht; simp; omega
        · split at ht
          · cases ht; simp; omega
          · cases ht
theorem or8 {a n : Int} (h1 : -9223372036854775808 ≤ a) (h2 : a ≤ 9223372036854775807) (hm : a % 8 = 0) (n1 : 0 ≤ n) (n2 : n < 8) : bits .or .i64 a n = a + n := by
  show IntKind.i64.wrap ((BitVec.ofInt 64 a ||| BitVec.ofInt 64 n).toNat : Nat) = a + n
  rw [BitVec.toNat_or, BitVec.toNat_ofInt, BitVec.toNat_ofInt]
  have e : ((2 ^ 64 : Nat) : Int) = 18446744073709551616 := by decide
  rw [e]
  rw [nat_join 3 _ _ (by omega) (by omega), IntKind.wrap_i64]
  omega
theorem alu_at {B : Bx} {u v : Int} (h : B.has u v) {op : Int} {x y z : F} (ht : aluA B op x y = some z) : alu op (x.ev u v) (y.ev u v) = z.ev u v ∧ ¬ (op = 5 ∨ op = 6) := by
  unfold aluA at ht
  split at ht
  · rename_i ho
    subst ho
    obtain ⟨rfl, hw⟩ := chk_at h ht
    rw [ev_add] at hw ⊢
    exact ⟨hw, by omega⟩
  · split at ht
    · rename_i ho
      subst ho
      obtain ⟨rfl, hw⟩ := chk_at h ht
      rw [ev_sub] at hw ⊢
      exact ⟨hw, by omega⟩
    · cases ht
theorem simp_at {B : Bx} {u v : Int} (h : B.has u v) {op : Int} {a b n z : F} (ht : simpA B op a b n = some z) : Rs.simp op (a.ev u v) (b.ev u v) (n.ev u v) = z.ev u v := by
  unfold simpA at ht
  split at ht
  · rename_i ho
    subst ho
    obtain ⟨rfl, hw⟩ := chk_at h ht
    rw [ev_add] at hw ⊢
    exact hw
  split at ht
  · rename_i ho
    subst ho
    cases ht
    rfl
  split at ht
  rotate_left
  · cases ht
  rename_i hn
  have hnv := con_at u v hn
  rw [hnv]
  split at ht
  · rename_i ho
    subst ho
    show bits .and .i64 _ _ = _
    split at ht
    · cases ht
      rw [con_at u v ‹_›]
      simp [F.ev]
    · split at ht
      · rename_i hd
        cases ht
        obtain ⟨q, hq, -⟩ := div_at u v hd.2
        rw [hq, hd.1]
        have := i64_mask 3 (by omega) (b.c + 8 * q)
        rw [show ((2 ^ 3 - 1 : Nat) : Int) = 7 from rfl, show ((2 ^ 3 : Nat) : Int) = 8 from rfl] at this
        rw [this]
        simp [F.ev]
      · cases ht
  split at ht
  · rename_i ho
    subst ho
    show bits .or .i64 _ _ = _
    split at ht
    · cases ht
      rw [con_at u v ‹_›]
      simp [F.ev]
    · split at ht
      · rename_i hd
        cases ht
        obtain ⟨⟨n0, n1⟩, ⟨hc, hi⟩, h8⟩ := hd
        obtain ⟨q, hq, -⟩ := div_at u v h8
        have hb := lo_le h b
        have hb2 := le_hi h b
        unfold inr at hi
        simp only [Bool.and_eq_true, decide_eq_true_eq] at hi
        rw [or8 (by omega) (by omega) (by omega) n0 n1]
        unfold F.ev
        dsimp only
        omega
      · cases ht
  split at ht
  · rename_i ho
    subst ho
    obtain ⟨rfl, hw⟩ := chk_at h ht
    rw [ev_mul] at hw ⊢
    exact hw
  split at ht
  · rename_i ho
    subst ho
    show b.ev u v / 2 ^ n.c.toNat = _
    split at ht
    · rename_i hd
      cases ht
      obtain ⟨q, hq, hz⟩ := div_at u v hd
      rw [hq, Int.add_mul_ediv_left _ _ (Int.ne_of_gt (Int.pow_pos (by decide))), hz]
      unfold F.ev
      dsimp only
      omega
    · cases ht
  split at ht
  · rename_i ho
    subst ho
    show bits .or .i64 (wrap64 (a.ev u v * 65536)) _ = _
    split at ht
    · cases ht
      rw [con_at u v ‹_›]
      simp [F.ev]
    · cases ht
  cases ht
structure I where
  op : Int
  a : Int
  b : Int
  c : Int
  n : F
structure S where
  pc : Nat
  regs : List F
  mem : List (F × F)
def zeroF : F := ⟨0, 0, 0⟩
def read (B : Bx) (a : F) : List (F × F) → Option F
  | [] => some zeroF
  | (b, x) :: l => if subF a b = zeroF then some x else if 0 < lo B (subF a b) ∨ hi B (subF a b) < 0 then read B a l else none
def look (u v : Int) (i : Int) : List (F × F) → Int
  | [] => 0
  | (b, x) :: l => if b.ev u v = i then x.ev u v else look u v i l
theorem zero_ev (u v : Int) : zeroF.ev u v = 0 := by unfold zeroF F.ev; simp
theorem read_at {B : Bx} {u v : Int} (h : B.has u v) {a : F} : ∀ {l : List (F × F)} {x : F}, read B a l = some x → look u v (a.ev u v) l = x.ev u v
  | [], x, hr => by cases hr; exact (zero_ev u v).symm
  | (b, y) :: l, x, hr => by
    unfold read at hr
    unfold look
    have h1 := lo_le h (subF a b)
    have h2 := le_hi h (subF a b)
    rw [ev_sub] at h1 h2
    split at hr
    · rename_i e
      cases hr
      have h3 := ev_sub u v a b
      rw [e, zero_ev] at h3
      rw [if_pos (by omega)]
    · split at hr
      · rw [if_neg (by omega)]
        exact read_at h hr
      · cases hr
def inM (B : Bx) (L a : F) : Bool := inr B a && decide (0 ≤ lo B a) && decide (hi B (subF a L) < 0)
theorem inM_at {B : Bx} {u v : Int} (h : B.has u v) {L a : F} (hm : inM B L a = true) : wrap64 (a.ev u v) = a.ev u v ∧ 0 ≤ a.ev u v ∧ a.ev u v < L.ev u v := by
  unfold inM at hm
  simp only [Bool.and_eq_true, decide_eq_true_eq] at hm
  have h1 := lo_le h a
  have h2 := le_hi h (subF a L)
  rw [ev_sub] at h2
  exact ⟨inr_at h hm.1.1, by omega, by omega⟩
def S.get (s : S) (i : Int) : F := s.regs.getD i.toNat zeroF
def S.put (s : S) (i : Int) (x : F) : List F := if i = 0 then s.regs else s.regs.set i.toNat x
def step (B : Bx) (L : F) (code : List (Option I)) (s : S) : Option (S × Option F) :=
  match code[s.pc]? with
  | some (some i) =>
    if i.op = 0 then some (s, some (s.get i.a))
    else if i.op ≤ 14 then
      match aluA B i.op (s.get i.b) (s.get i.c) with
      | some x => some (⟨s.pc + 1, s.put i.a x, s.mem⟩, none)
      | none => none
    else if 24 ≤ i.op ∧ i.op ≤ 27 then
      match takenA B i.op (s.get i.a) (s.get i.b) with
      | some true => if conB i.n = true ∧ 0 ≤ (s.pc : Int) + i.n.c then some (⟨((s.pc : Int) + i.n.c).toNat, s.regs, s.mem⟩, none) else none
      | some false => some (⟨s.pc + 1, s.regs, s.mem⟩, none)
      | none => none
    else if i.op = 22 then
      if inM B L (addF (s.get i.b) i.n) = true then
        match read B (addF (s.get i.b) i.n) s.mem with
        | some x => some (⟨s.pc + 1, s.put i.a x, s.mem⟩, none)
        | none => none
      else none
    else if i.op = 23 then
      if inM B L (addF (s.get i.b) i.n) = true then some (⟨s.pc + 1, s.regs, (addF (s.get i.b) i.n, s.get i.a) :: s.mem⟩, none) else none
    else if i.op = 28 then
      if conB i.n = true ∧ 0 ≤ (s.pc : Int) + i.n.c then some (⟨((s.pc : Int) + i.n.c).toNat, s.put i.a ⟨s.pc + 1, 0, 0⟩, s.mem⟩, none) else none
    else if i.op = 29 then
      if conB (s.get i.b) = true ∧ 0 ≤ (s.get i.b).c then some (⟨(s.get i.b).c.toNat, s.put i.a ⟨s.pc + 1, 0, 0⟩, s.mem⟩, none) else none
    else if i.op = 30 ∨ i.op = 31 then none
    else
      match simpA B i.op (s.get i.a) (s.get i.b) i.n with
      | some x => some (⟨s.pc + 1, s.put i.a x, s.mem⟩, none)
      | none => none
  | _ => none
def run (B : Bx) (L : F) (code : List (Option I)) : Nat → S → Option (S × F)
  | 0, _ => none
  | k + 1, s =>
    match step B L code s with
    | some (s', none) => run B L code k s'
    | some (s', some x) => some (s', x)
    | none => none
structure Rel (u v : Int) (L : F) (s : S) (m : M) : Prop where
  pc : m.pc = s.pc
  regs : m.regs = s.regs.map (F.ev u v)
  len : (m.mem.length : Int) = L.ev u v
  mem : ∀ i : Nat, i < m.mem.length → m.mem.getD i 0 = look u v i s.mem
structure CodeRel (u v : Int) (code : List Int) (ac : List (Option I)) : Prop where
  len : code.length = ac.length
  at_ : ∀ (p : Nat) (i : I), ac[p]? = some (some i) → decB (code.getD p 0) = true ∧ fO (code.getD p 0) = i.op ∧ fA (code.getD p 0) = i.a ∧ fB i.op (code.getD p 0) = i.b ∧ fC i.op (code.getD p 0) = i.c ∧ fN i.op (code.getD p 0) = i.n.ev u v
theorem Rel.get {u v : Int} {L : F} {s : S} {m : M} (h : Rel u v L s m) (i : Int) : rget m i = (s.get i).ev u v := by
  unfold rget S.get
  rw [h.regs, List.getD_eq_getElem?_getD, List.getD_eq_getElem?_getD, List.getElem?_map]
  cases s.regs[i.toNat]? with
  | none => exact (zero_ev u v).symm
  | some x => rfl
theorem Rel.put {u v : Int} {L : F} {s : S} {m : M} (h : Rel u v L s m) (i : Int) (x : F) (pc : Nat) (p : Int) (hp : p = pc) : Rel u v L ⟨pc, s.put i x, s.mem⟩ (adv (setReg m i (x.ev u v)) p) := by
  refine ⟨hp, ?_, ?_, ?_⟩
  · unfold setReg S.put adv
    dsimp only
    split
    · exact h.regs
    · dsimp only
      rw [h.regs, List.map_set]
  · show ((setReg m i (x.ev u v)).mem.length : Int) = _
    rw [(setReg_facts m i (x.ev u v)).2.1]
    exact h.len
  · show ∀ k : Nat, k < (setReg m i (x.ev u v)).mem.length → (setReg m i (x.ev u v)).mem.getD k 0 = _
    rw [(setReg_facts m i (x.ev u v)).2.1]
    exact h.mem
theorem Rel.jump {u v : Int} {L : F} {s : S} {m : M} (h : Rel u v L s m) (pc : Nat) (p : Int) (hp : p = pc) : Rel u v L ⟨pc, s.regs, s.mem⟩ (adv m p) := ⟨hp, h.regs, h.len, h.mem⟩
def Out (u v : Int) (r : M × Int) (m' : M) : Option F → Prop
  | none => r = (m', 6)
  | some x => r = (m', 0) ∧ m'.value = x.ev u v
theorem step_at {B : Bx} {u v : Int} (hB : B.has u v) {L : F} {code : List Int} {ac : List (Option I)} (hc : CodeRel u v code ac) {s s' : S} {m : M} (h : Rel u v L s m) {o : Option F} (hs : step B L ac s = some (s', o)) :
    ¬ (m.pc < 0 ∨ (code.length : Int) ≤ m.pc) ∧ decB (code.getD m.pc.toNat 0) = true ∧ ∃ m', Rel u v L s' m' ∧ Out u v (execW (code.getD m.pc.toNat 0) m) m' o := by
  unfold step at hs
  split at hs
  rotate_left
  · cases hs
  rename_i i hi
  obtain ⟨c1, c2, c3, c4, c5, c6⟩ := hc.at_ _ _ hi
  have hpl : s.pc < code.length := by rw [hc.len]; exact (List.getElem?_eq_some_iff.1 hi).1
  have hpc := h.pc
  have hpn : m.pc.toNat = s.pc := by rw [hpc]; rfl
  rw [hpn]
  refine ⟨by omega, c1, ?_⟩
  unfold execW
  rw [c2, c3, c4, c5, c6]
  clear c1 c2 c3 c4 c5 c6 hi hc hpn
  unfold exec
  dsimp only
  rw [h.get i.a, h.get i.b, h.get i.c]
  split at hs
  · rename_i ho
    cases hs
    rw [if_pos ho]
    refine ⟨_, ?_, rfl, rfl⟩
    exact ⟨h.pc, h.regs, h.len, h.mem⟩
  rename_i ho0
  rw [if_neg ho0]
  clear ho0
  split at hs
  · rename_i ho
    rw [if_pos ho]
    split at hs
    rotate_left
    · cases hs
    rename_i x hx
    cases hs
    obtain ⟨ha, hn⟩ := alu_at hB hx
    rw [if_neg (fun hh => hn hh.1), ha]
    exact ⟨_, h.put i.a x _ _ (by rw [hpc]; rfl), rfl⟩
  rename_i ho1
  rw [if_neg ho1]
  split at hs
  · rename_i ho
    rw [if_pos ho]
    split at hs
    · rename_i hx
      split at hs
      rotate_left
      · cases hs
      rename_i hk
      cases hs
      rw [taken_at hB hx, if_pos rfl, con_at u v hk.1]
      exact ⟨_, h.jump _ _ (by rw [hpc]; omega), rfl⟩
    · rename_i hx
      cases hs
      rw [taken_at hB hx, if_neg (by decide)]
      exact ⟨_, h.jump _ _ (by rw [hpc]; rfl), rfl⟩
    · cases hs
  rename_i ho2
  rw [if_neg ho2]
  split at hs
  · rename_i ho
    rw [if_pos ho]
    split at hs
    rotate_left
    · cases hs
    rename_i hm
    split at hs
    rotate_left
    · cases hs
    rename_i x hx
    cases hs
    obtain ⟨m1, m2, m3⟩ := inM_at hB hm
    have hr := read_at hB hx
    rw [ev_add] at m1 m2 m3 hr
    rw [m1, if_neg (by rw [h.len]; omega), h.mem _ (by have := h.len; omega), Int.toNat_of_nonneg m2, hr]
    exact ⟨_, h.put i.a x _ _ (by rw [hpc]; rfl), rfl⟩
  rename_i ho3
  rw [if_neg ho3]
  split at hs
  · rename_i ho
    rw [if_pos ho]
    split at hs
    rotate_left
    · cases hs
    rename_i hm
    cases hs
    obtain ⟨m1, m2, m3⟩ := inM_at hB hm
    have he := ev_add u v (s.get i.b) i.n
    rw [ev_add] at m1 m2 m3
    rw [m1, if_neg (by rw [h.len]; omega)]
    refine ⟨_, ?_, rfl⟩
    refine ⟨by show m.pc + 1 = _; rw [hpc]; rfl, h.regs, ?_, ?_⟩
    · show ((m.mem.set _ _).length : Int) = _
      rw [List.length_set]
      exact h.len
    · show ∀ k : Nat, k < (m.mem.set _ _).length → (m.mem.set _ _).getD k 0 = look u v k (_ :: s.mem)
      intro k hk
      rw [List.length_set] at hk
      unfold look
      rw [he, List.getD_eq_getElem?_getD, List.getElem?_set]
      by_cases hkk : ((s.get i.b).ev u v + i.n.ev u v).toNat = k
      · rw [if_pos hkk, if_pos (by omega), if_pos (by omega)]
        rfl
      · rw [if_neg hkk, if_neg (by omega), ← List.getD_eq_getElem?_getD]
        exact h.mem k hk
  rename_i ho4
  rw [if_neg ho4]
  have e1 : ((⟨(s.pc : Int) + 1, 0, 0⟩ : F)).ev u v = m.pc + 1 := by rw [hpc]; unfold F.ev; simp
  split at hs
  · rename_i ho
    rw [if_pos ho]
    split at hs
    rotate_left
    · cases hs
    rename_i hk
    cases hs
    rw [con_at u v hk.1, ← e1]
    exact ⟨_, h.put i.a _ _ _ (by rw [hpc]; omega), rfl⟩
  rename_i ho5
  rw [if_neg ho5]
  split at hs
  · rename_i ho
    rw [if_pos ho]
    split at hs
    rotate_left
    · cases hs
    rename_i hk
    cases hs
    rw [con_at u v hk.1, ← e1]
    exact ⟨_, h.put i.a _ _ _ (by omega), rfl⟩
  rename_i ho6
  rw [if_neg ho6]
  split at hs
  · cases hs
  rename_i ho7
  rw [if_neg (fun hh => ho7 (.inl hh)), if_neg (fun hh => ho7 (.inr hh))]
  split at hs
  rotate_left
  · cases hs
  rename_i x hx
  cases hs
  rw [simp_at hB hx]
  exact ⟨_, h.put i.a x _ _ (by rw [hpc]; rfl), rfl⟩
theorem run_at {B : Bx} {u v : Int} (hB : B.has u v) {L : F} {code : List Int} {ac : List (Option I)} (hc : CodeRel u v code ac) : ∀ (k : Nat) {s s' : S} {m : M} {x : F}, Rel u v L s m → run B L ac k s = some (s', x) → ∃ m', go code k m = (m', 0) ∧ Rel u v L s' m' ∧ m'.value = x.ev u v
  | 0, s, s', m, x, h, hr => by cases hr
  | k + 1, s, s', m, x, h, hr => by
    unfold run at hr
    unfold go
    split at hr
    · rename_i s1 h1
      obtain ⟨a1, a2, m', a3, a4⟩ := step_at hB hc h h1
      rw [if_neg a1, a2, if_neg (by decide)]
      have a5 : execW (code.getD m.pc.toNat 0) m = (m', 6) := a4
      rw [a5, if_pos rfl]
      exact run_at hB hc k a3 hr
    · rename_i s1 y h1
      cases hr
      obtain ⟨a1, a2, m', a3, a4⟩ := step_at hB hc h h1
      rw [if_neg a1, a2, if_neg (by decide)]
      obtain ⟨a5, a6⟩ : execW (code.getD m.pc.toNat 0) m = (m', 0) ∧ m'.value = x.ev u v := a4
      rw [a5, if_neg (show ¬ (0 : Int) = 6 by decide)]
      exact ⟨m', rfl, a3, a6⟩
    · cases hr
def decI (x : Int) : Option I := if decB x = true then some ⟨fO x, fA x, fB (fO x) x, fC (fO x) x, ⟨fN (fO x) x, 0, 0⟩⟩ else none
theorem codeRel_dec (u v : Int) (code : List Int) : CodeRel u v code (code.map decI) := by
  refine ⟨by simp, fun p i hp => ?_⟩
  rw [List.getElem?_map] at hp
  rw [List.getD_eq_getElem?_getD]
  cases hx : code[p]? with
  | none => rw [hx] at hp; cases hp
  | some x =>
    rw [hx] at hp
    have hp' : decI x = some i := by simpa using hp
    unfold decI at hp'
    split at hp'
    · cases hp'
      exact ⟨‹_›, rfl, rfl, rfl, rfl, (con_at (f := ⟨fN (fO x) x, 0, 0⟩) u v rfl).symm⟩
    · cases hp'
end Ab
end Go.Proofs.Ytdmfogmgjmdaeaa
