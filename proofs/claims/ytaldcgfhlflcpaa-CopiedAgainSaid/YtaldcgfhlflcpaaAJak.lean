/- Runs, plainly. -/
import Derived.Test.YtaldcgfhlflcpaaAJai
import Derived.Test.YtaldcgfhlflcpaaAJaj
import Derived.Test.YtaldcgfhlflcpaaAJag
import Derived.Test.YtaldcgfhlflcpaaAJaf
set_option linter.unusedVariables false
set_option linter.unusedSimpArgs false
set_option linter.unnecessarySimpa false
namespace Go.Proofs.Ytaldcgfhlflcpaa
open Go.RowKit
set_option maxRecDepth 100000
set_option linter.unusedSimpArgs false
set_option linter.unusedVariables false
namespace Rs
def noImage (code mem : List Int) (words steps : Int) : Prop := words < 0 ∨ 1048576 < words ∨ 1048576 < code.length ∨ words < mem.length ∨ steps < 0
instance (code mem : List Int) (words steps : Int) : Decidable (noImage code mem words steps) := by unfold noImage; exact inferInstance
def start (mem : List Int) (words : Int) (inp : List UInt8) : M := ⟨0, 0, 0, List.replicate 32 0, mem ++ List.replicate (words.toNat - mem.length) 0, inp, []⟩
def run (code mem : List Int) (words : Int) (inp : List UInt8) (steps : Int) : M × Int := go code steps.toNat (start mem words inp)
def halt (st : Int) (m : M) (mv : Value) : List Value :=
  .int .i64 st :: .int .i64 m.value :: .string ⟨m.out.toArray⟩ :: .int .i64 m.steps :: .int .i64 m.pc :: (m.regs.map (Value.int .i64) ++ [mv])
structure Inv (code : List Int) (lim : Int) (m : M) : Prop where
  ok : Ok m
  s0 : 0 ≤ m.steps
  s1 : m.steps ≤ lim
  out : m.out.length ≤ m.steps
theorem setReg_out (m : M) (r v : Int) : (setReg m r v).out = m.out ∧ (setReg m r v).steps = m.steps := by unfold setReg; split <;> exact ⟨rfl, rfl⟩
theorem exec_steps {op a b c n : Int} {m : M} (h : (exec op a b c n m).2 = 6) : (exec op a b c n m).1.steps = m.steps + 1 ∧ ((exec op a b c n m).1.out.length : Int) ≤ m.out.length + 1 := by
  have key : ∀ r, exec op a b c n m = r → r.2 = 6 → r.1.steps = m.steps + 1 ∧ (r.1.out.length : Int) ≤ m.out.length + 1 := by
    intro r hr h6
    unfold exec at hr
    dsimp only at hr
    repeat' split at hr
    all_goals subst hr
    all_goals first
      | (simp at h6; done)
      | (refine ⟨by simp [adv, setReg_out], ?_⟩; simp [adv, setReg_out] <;> omega)
  exact key _ rfl h
theorem start_ok {mem : List Int} {words : Int} {inp : List UInt8} (hm : ∀ x ∈ mem, InR x) (h0 : 0 ≤ words) (h1 : words ≤ 1048576) (h2 : (mem.length : Int) ≤ words) : Ok (start mem words inp) := by
  refine ⟨by simp [start], fun x hx => ?_, fun x hx => ?_, by simp [start]; omega⟩
  · have := (List.mem_replicate.1 hx).2; rw [this]; exact InR.zero
  · rcases List.mem_append.1 hx with h | h
    · exact hm x h
    · have := (List.mem_replicate.1 h).2; rw [this]; exact InR.zero
end Rs
theorem three_made (w : World) (c1 c2 c3 : Array Value) (t1 t2 t3 : TypeId) {W : World} (h : ((w.alloc (.cells c1 t1)).alloc (.cells c2 t2)).alloc (.cells c3 t3) = W) :
    W.heap[w.heap.size]? = some (.cells c1 t1 (0, 0)) ∧ W.heap[w.heap.size + 1]? = some (.cells c2 t2 (0, 0)) ∧ W.heap[w.heap.size + 1 + 1]? = some (.cells c3 t3 (0, 0)) ∧ W.heap.size = w.heap.size + 3 ∧ Below w.heap.size w W := by
  subst h
  have h3 := heap_alloc_new ((w.alloc (.cells c1 t1)).alloc (.cells c2 t2)) (.cells c3 t3)
  have e3 : ((w.alloc (.cells c1 t1)).alloc (.cells c2 t2)).heap.size = w.heap.size + 1 + 1 := by simp
  rw [e3] at h3
  have h2 := heap_alloc_new (w.alloc (.cells c1 t1)) (.cells c2 t2)
  have e2 : (w.alloc (.cells c1 t1)).heap.size = w.heap.size + 1 := by simp
  rw [e2] at h2
  have h1 := heap_alloc_new w (.cells c1 t1)
  have k2 := ((Below.refl ((w.alloc (.cells c1 t1)).alloc (.cells c2 t2)).heap.size ((w.alloc (.cells c1 t1)).alloc (.cells c2 t2))).alloc (Nat.le_refl _) (.cells c3 t3)).block
  have k1 := ((Below.refl (w.alloc (.cells c1 t1)).heap.size (w.alloc (.cells c1 t1))).alloc (Nat.le_refl _) (.cells c2 t2)).block
  refine ⟨?_, ?_, h3, by simp, (((Below.refl _ _).alloc (Nat.le_refl _) _).alloc (by simp) _).alloc (by simp; omega) _⟩
  · rw [k2 w.heap.size (by rw [e3]; omega), k1 w.heap.size (by rw [e2]; omega)]; exact h1
  · rw [k2 (w.heap.size + 1) (by rw [e3]; omega)]; exact h2
end Go.Proofs.Ytaldcgfhlflcpaa
namespace Go.Proofs.Ytaldcgfhlflcpaa
open Go.RowKit
set_option maxRecDepth 100000
set_option linter.unusedSimpArgs false
set_option linter.unusedVariables false
namespace Rs
theorem parts0 : ∀ k : Fin 32, form ((k : Nat) : Int) = 0 → nmod ((k : Nat) : Int) = 1 ∧ hasB ((k : Nat) : Int) = false ∧ hasC ((k : Nat) : Int) = false ∧ least ((k : Nat) : Int) = 0 ∧ most ((k : Nat) : Int) = 0 := by decide +kernel
theorem parts1 : ∀ k : Fin 32, form ((k : Nat) : Int) = 1 → nmod ((k : Nat) : Int) = 1 ∧ hasB ((k : Nat) : Int) = true ∧ hasC ((k : Nat) : Int) = true ∧ least ((k : Nat) : Int) = 0 ∧ most ((k : Nat) : Int) = 0 := by decide +kernel
theorem parts2 : ∀ k : Fin 32, form ((k : Nat) : Int) = 2 → nmod ((k : Nat) : Int) = 65536 ∧ hasB ((k : Nat) : Int) = true ∧ hasC ((k : Nat) : Int) = false ∧ ((least ((k : Nat) : Int) = -32768 ∧ most ((k : Nat) : Int) = 32767) ∨ (least ((k : Nat) : Int) = 0 ∧ most ((k : Nat) : Int) ≤ 65535)) := by decide +kernel
theorem parts3 : ∀ k : Fin 32, form ((k : Nat) : Int) = 3 → nmod ((k : Nat) : Int) = 65536 ∧ hasB ((k : Nat) : Int) = false ∧ hasC ((k : Nat) : Int) = false ∧ ((least ((k : Nat) : Int) = -32768 ∧ most ((k : Nat) : Int) = 32767) ∨ (least ((k : Nat) : Int) = 0 ∧ most ((k : Nat) : Int) ≤ 65535)) := by decide +kernel
theorem parts4 : ∀ k : Fin 32, form ((k : Nat) : Int) = 4 → nmod ((k : Nat) : Int) = 1024 ∧ hasB ((k : Nat) : Int) = true ∧ hasC ((k : Nat) : Int) = false ∧ least ((k : Nat) : Int) = -512 ∧ most ((k : Nat) : Int) = 511 := by decide +kernel
theorem parts5 : ∀ k : Fin 32, form ((k : Nat) : Int) = 5 → nmod ((k : Nat) : Int) = 2097152 ∧ hasB ((k : Nat) : Int) = false ∧ hasC ((k : Nat) : Int) = false ∧ least ((k : Nat) : Int) = -1048576 ∧ most ((k : Nat) : Int) = 1048575 := by decide +kernel
theorem parts6 : ∀ k : Fin 32, form ((k : Nat) : Int) = 6 → nmod ((k : Nat) : Int) = 1 ∧ hasB ((k : Nat) : Int) = true ∧ hasC ((k : Nat) : Int) = false ∧ least ((k : Nat) : Int) = 0 ∧ most ((k : Nat) : Int) = 0 := by decide +kernel
theorem form_parts {op : Int} : (form op = 0 → nmod op = 1 ∧ hasB op = false ∧ hasC op = false ∧ least op = 0 ∧ most op = 0) ∧
    (form op = 1 → nmod op = 1 ∧ hasB op = true ∧ hasC op = true ∧ least op = 0 ∧ most op = 0) ∧
    (form op = 2 → nmod op = 65536 ∧ hasB op = true ∧ hasC op = false ∧ ((least op = -32768 ∧ most op = 32767) ∨ (least op = 0 ∧ most op ≤ 65535))) ∧
    (form op = 3 → nmod op = 65536 ∧ hasB op = false ∧ hasC op = false ∧ ((least op = -32768 ∧ most op = 32767) ∨ (least op = 0 ∧ most op ≤ 65535))) ∧
    (form op = 4 → nmod op = 1024 ∧ hasB op = true ∧ hasC op = false ∧ least op = -512 ∧ most op = 511) ∧
    (form op = 5 → nmod op = 2097152 ∧ hasB op = false ∧ hasC op = false ∧ least op = -1048576 ∧ most op = 1048575) ∧
    (form op = 6 → nmod op = 1 ∧ hasB op = true ∧ hasC op = false ∧ least op = 0 ∧ most op = 0) := by
  by_cases h : form op = 7
  · rw [h]; simp
  · obtain ⟨h1, h2⟩ := form_range op h
    obtain ⟨k, rfl⟩ : ∃ k : Nat, op = k := ⟨op.toNat, by omega⟩
    have hk : k < 32 := by omega
    exact ⟨parts0 ⟨k, hk⟩, parts1 ⟨k, hk⟩, parts2 ⟨k, hk⟩, parts3 ⟨k, hk⟩, parts4 ⟨k, hk⟩, parts5 ⟨k, hk⟩, parts6 ⟨k, hk⟩⟩
theorem enc_fields {op a b c n : Int} (h : ¬ Bad op a b c n) : 0 ≤ enc op a b c n ∧ enc op a b c n < 4294967296 ∧ fO (enc op a b c n) = op ∧ fA (enc op a b c n) = a ∧ fB op (enc op a b c n) = b ∧ fC op (enc op a b c n) = c ∧ fN op (enc op a b c n) = n := by
  have h' := h
  unfold Bad at h'
  simp only [not_or, Bool.not_eq_false, Int.not_lt] at h'
  obtain ⟨h7, ha, hb, hc, hB, hC, hn1, hn2⟩ := h'
  replace hB : form op = 0 ∨ form op = 3 ∨ form op = 5 → b = 0 := fun h => by by_cases hb : b = 0; exact hb; exact absurd ⟨h, hb⟩ hB
  replace hC : form op ≠ 1 → c = 0 := fun h => by by_cases hc : c = 0; exact hc; exact absurd ⟨h, hc⟩ hC
  obtain ⟨o1, o2⟩ := form_range op h7
  obtain ⟨a1, a2⟩ := isReg_range ha
  obtain ⟨b1, b2⟩ := isReg_range hb
  obtain ⟨c1, c2⟩ := isReg_range hc
  obtain ⟨p0, p1, p2, p3, p4, p5, p6⟩ := @form_parts op
  have key : ∀ (N : Int) (B C : Bool), nmod op = N → hasB op = B → hasC op = C → (B = false → b = 0) → (C = false → c = 0) →
      (N = 1 ∨ N = 65536 ∨ N = 1024 ∨ (N = 2097152 ∧ b = 0 ∧ B = false)) → (N = 1 ∨ C = false) →
      ((least op = 0 ∧ most op < N) ∨ (least op < 0 ∧ -N ≤ 2 * least op ∧ 2 * most op + 2 = N)) →
      0 ≤ enc op a b c n ∧ enc op a b c n < 4294967296 ∧ fO (enc op a b c n) = op ∧ fA (enc op a b c n) = a ∧ fB op (enc op a b c n) = b ∧ fC op (enc op a b c n) = c ∧ fN op (enc op a b c n) = n := by
    intro N B C hN hBb hCc hb0 hc0 hNs hNC hr
    unfold fO fA fB fC fN
    rw [hBb, hCc, hN]
    unfold enc
    rw [hN]
    have hx : n % N = if n < 0 then n + N else n := by
      rcases hNs with rfl | rfl | rfl | ⟨rfl, -, -⟩ <;> split <;> omega
    have hcz : N ≠ 1 → c = 0 := fun h => hc0 (hNC.resolve_left h)
    have hm : (op * 67108864 + a * 2097152 + b * 65536 + c * 2048 + n % N) % N = n % N := by
      rcases hNs with rfl | rfl | rfl | ⟨rfl, h1, -⟩ <;> omega
    have hm0 : 0 ≤ n % N ∧ n % N < N := by rcases hNs with rfl | rfl | rfl | ⟨rfl, -, -⟩ <;> omega
    rw [hm]
    refine ⟨?_, ?_, ?_, ?_, ?_, ?_, ?_⟩
    · omega
    · rcases hNs with rfl | rfl | rfl | ⟨rfl, h1, -⟩ <;> omega
    · rcases hNs with rfl | rfl | rfl | ⟨rfl, h1, -⟩ <;> omega
    · rcases hNs with rfl | rfl | rfl | ⟨rfl, h1, -⟩ <;> omega
    · cases B
      · rw [hb0 rfl]; rfl
      · rw [if_pos rfl]
        rcases hNs with rfl | rfl | rfl | ⟨rfl, h1, h2⟩
        · omega
        · omega
        · omega
        · cases h2
    · cases C
      · rw [hc0 rfl]; rfl
      · rw [if_pos rfl]
        rcases hNC with rfl | h2
        · omega
        · cases h2
    · rw [hx]
      split <;> split <;> omega
  rcases form_8 op with hf | hf | hf | hf | hf | hf | hf | hf
  · obtain ⟨q1, q2, q3, q4, q5⟩ := p0 hf
    exact key _ _ _ q1 q2 q3 (fun _ => hB (.inl hf)) (fun _ => hC (by omega)) (.inl rfl) (.inl rfl) (.inl ⟨q4, by omega⟩)
  · obtain ⟨q1, q2, q3, q4, q5⟩ := p1 hf
    exact key _ _ _ q1 q2 q3 (fun h => by cases h) (fun h => by cases h) (.inl rfl) (.inl rfl) (.inl ⟨q4, by omega⟩)
  · obtain ⟨q1, q2, q3, q4⟩ := p2 hf
    exact key _ _ _ q1 q2 q3 (fun h => by cases h) (fun _ => hC (by omega)) (.inr (.inl rfl)) (.inr rfl) (by omega)
  · obtain ⟨q1, q2, q3, q4⟩ := p3 hf
    exact key _ _ _ q1 q2 q3 (fun _ => hB (.inr (.inl hf))) (fun _ => hC (by omega)) (.inr (.inl rfl)) (.inr rfl) (by omega)
  · obtain ⟨q1, q2, q3, q4⟩ := p4 hf
    exact key _ _ _ q1 q2 q3 (fun h => by cases h) (fun _ => hC (by omega)) (.inr (.inr (.inl rfl))) (.inr rfl) (by omega)
  · obtain ⟨q1, q2, q3, q4⟩ := p5 hf
    have hb0 : b = 0 := hB (.inr (.inr hf))
    exact key _ _ _ q1 q2 q3 (fun _ => hb0) (fun _ => hC (by omega)) (.inr (.inr (.inr ⟨rfl, hb0, rfl⟩))) (.inr rfl) (by omega)
  · obtain ⟨q1, q2, q3, q4, q5⟩ := p6 hf
    exact key _ _ _ q1 q2 q3 (fun h => by cases h) (fun _ => hC (by omega)) (.inl rfl) (.inl rfl) (.inl ⟨q4, by omega⟩)
  · exact absurd hf h7
theorem dec_enc {op a b c n : Int} (h : ¬ Bad op a b c n) : decB (enc op a b c n) = true := by
  obtain ⟨-, -, h1, h2, h3, h4, h5⟩ := enc_fields h
  unfold decB
  rw [h1, h2, h3, h4, h5]
  exact decide_eq_true ⟨if_neg h, if_neg h⟩
theorem execW_enc {op a b c n : Int} (h : ¬ Bad op a b c n) (m : M) : execW (enc op a b c n) m = exec op a b c n m := by
  obtain ⟨-, -, h1, h2, h3, h4, h5⟩ := enc_fields h
  unfold execW
  rw [h1, h2, h3, h4, h5]
theorem setReg_facts (m : M) (r v : Int) : (setReg m r v).steps = m.steps ∧ (setReg m r v).mem = m.mem ∧ (setReg m r v).regs.length = m.regs.length ∧ (m.regs.getD 0 0 = 0 → 0 ≤ r → (setReg m r v).regs.getD 0 0 = 0) := by
  unfold setReg
  split
  · exact ⟨rfl, rfl, rfl, fun h _ => h⟩
  · refine ⟨rfl, rfl, by simp, fun h hr => ?_⟩
    obtain ⟨k, hk⟩ : ∃ k, r.toNat = k + 1 := ⟨r.toNat - 1, by omega⟩
    rw [hk]
    cases hm : m.regs with
    | nil => rfl
    | cons x l => rw [hm] at h; simpa using h
end Rs
end Go.Proofs.Ytaldcgfhlflcpaa
namespace Go.Proofs.Ytaldcgfhlflcpaa
open Go.RowKit
set_option maxRecDepth 100000
set_option linter.unusedVariables false
set_option linter.unusedSimpArgs false
namespace Rs
theorem i64_or16 {a n : Int} (h1 : -9223372036854775808 ≤ a) (h2 : a ≤ 9223372036854775807) (hm : a % 65536 = 0) (n1 : 0 ≤ n) (n2 : n < 65536) : bits .or .i64 a n = a + n := by
  show IntKind.i64.wrap ((BitVec.ofInt 64 a ||| BitVec.ofInt 64 n).toNat : Nat) = a + n
  rw [BitVec.toNat_or, BitVec.toNat_ofInt, BitVec.toNat_ofInt]
  have e : ((2 ^ 64 : Nat) : Int) = 18446744073709551616 := by decide
  rw [e]
  rw [nat_join 16 _ _ (by omega) (by omega), IntKind.wrap_i64]
  omega
def nSt (j : Int) (rs : List Int) : M := ⟨0, j, j, rs, [], [], []⟩
theorem go_at {code : List Int} {k : Nat} {j : Int} {rs : List Int} {op a b c n : Int} {j' : Int} {rs' : List Int} (p : Nat) (hp : j = p) (hl : p < code.length) (hc : code.getD p 0 = enc op a b c n) (hb : ¬ Bad op a b c n)
    (h : exec op a b c n (nSt j rs) = (nSt j' rs', 6)) : go code (k + 1) (nSt j rs) = go code k (nSt j' rs') := by
  have hpc : (nSt j rs).pc = p := hp
  rw [go, if_neg (by rw [hpc]; omega), hpc, Int.toNat_natCast, hc, if_neg (by rw [dec_enc hb]; decide), execW_enc hb, h, if_pos rfl]
theorem exec_li (r : Nat) (h : r = 1 ∨ r = 2) (n j : Int) (rs : List Int) : exec 20 r 0 0 n (nSt j rs) = (nSt (j + 1) (rs.set r n), 6) := by
  rcases h with rfl | rfl <;> rfl
theorem exec_lhi (r : Nat) (h : r = 1 ∨ r = 2) (n j : Int) (rs : List Int) : exec 21 r 0 0 n (nSt j rs) = (nSt (j + 1) (rs.set r (bits .or .i64 (wrap64 (rs.getD r 0 * 65536)) n)), 6) := by
  rcases h with rfl | rfl <;> rfl
def numL (r x : Int) : List Int := [enc 20 r 0 0 (x / 281474976710656), enc 21 r 0 0 (x / 4294967296 % 65536), enc 21 r 0 0 (x / 65536 % 65536), enc 21 r 0 0 (x % 65536)]
def numA : List Int := [enc 1 3 1 2 0, enc 2 4 1 2 0, enc 3 5 1 2 0, enc 4 6 1 2 0, enc 7 7 1 2 0, enc 8 8 1 2 0, enc 9 9 1 2 0, enc 13 10 1 2 0, enc 14 11 1 2 0]
theorem good_li (r n : Int) (hr : r = 1 ∨ r = 2) (h1 : -32768 ≤ n) (h2 : n ≤ 32767) : ¬ Bad 20 r 0 0 n := by
  unfold Bad
  have e : form 20 = 3 ∧ least 20 = -32768 ∧ most 20 = 32767 ∧ isReg 0 = true := by decide
  rw [e.1, e.2.1, e.2.2.1, e.2.2.2]
  rcases hr with rfl | rfl
  · rw [show isReg 1 = true from rfl]; simp; omega
  · rw [show isReg 2 = true from rfl]; simp; omega
theorem good_lhi (r n : Int) (hr : r = 1 ∨ r = 2) (h1 : 0 ≤ n) (h2 : n ≤ 65535) : ¬ Bad 21 r 0 0 n := by
  unfold Bad
  have e : form 21 = 3 ∧ least 21 = 0 ∧ most 21 = 65535 ∧ isReg 0 = true := by decide
  rw [e.1, e.2.1, e.2.2.1, e.2.2.2]
  rcases hr with rfl | rfl
  · rw [show isReg 1 = true from rfl]; simp; omega
  · rw [show isReg 2 = true from rfl]; simp; omega
end Rs
end Go.Proofs.Ytaldcgfhlflcpaa
namespace Go.Proofs.Ytaldcgfhlflcpaa
open Go.RowKit
set_option maxRecDepth 100000
set_option linter.unusedVariables false
set_option linter.unusedSimpArgs false
namespace Ab
open Rs
structure F where
  c : Int
  d : Int
  e : Int
deriving DecidableEq
structure Bx where
  u0 : Int
  u1 : Int
  v0 : Int
  v1 : Int
def F.ev (u v : Int) (f : F) : Int := f.c + f.d * u + f.e * v
def Bx.has (B : Bx) (u v : Int) : Prop := (B.u0 ≤ u ∧ u ≤ B.u1) ∧ (B.v0 ≤ v ∧ v ≤ B.v1)
def lo (B : Bx) (f : F) : Int := f.c + (if 0 ≤ f.d then f.d * B.u0 else f.d * B.u1) + (if 0 ≤ f.e then f.e * B.v0 else f.e * B.v1)
def hi (B : Bx) (f : F) : Int := f.c + (if 0 ≤ f.d then f.d * B.u1 else f.d * B.u0) + (if 0 ≤ f.e then f.e * B.v1 else f.e * B.v0)
def addF (x y : F) : F := ⟨x.c + y.c, x.d + y.d, x.e + y.e⟩
def subF (x y : F) : F := ⟨x.c - y.c, x.d - y.d, x.e - y.e⟩
def mulF (x : F) (k : Int) : F := ⟨x.c * k, x.d * k, x.e * k⟩
def inr (B : Bx) (f : F) : Bool := decide (-9223372036854775808 ≤ lo B f) && decide (hi B f ≤ 9223372036854775807)
def chk (B : Bx) (f : F) : Option F := if inr B f = true then some f else none
def conB (f : F) : Bool := decide (f.d = 0) && decide (f.e = 0)
def div8 (k : Int) (f : F) : Bool := decide (f.d % k = 0) && decide (f.e % k = 0)
def aluA (B : Bx) (op : Int) (x y : F) : Option F := if op = 1 then chk B (addF x y) else if op = 2 then chk B (subF x y) else none
def simpA (B : Bx) (op : Int) (a b n : F) : Option F :=
  if op = 15 then chk B (addF b n)
  else if op = 20 then some n
  else if conB n = true then
    if op = 16 then (if conB b = true then some ⟨bits .and .i64 b.c n.c, 0, 0⟩ else if n.c = 7 ∧ div8 8 b = true then some ⟨b.c % 8, 0, 0⟩ else none)
    else if op = 17 then (if conB b = true then some ⟨bits .or .i64 b.c n.c, 0, 0⟩ else if (0 ≤ n.c ∧ n.c < 8) ∧ (b.c % 8 = 0 ∧ inr B b = true) ∧ div8 8 b = true then some ⟨b.c + n.c, b.d, b.e⟩ else none)
    else if op = 18 then chk B (mulF b (2 ^ n.c.toNat))
    else if op = 19 then (if div8 (2 ^ n.c.toNat) b = true then some ⟨b.c / 2 ^ n.c.toNat, b.d / 2 ^ n.c.toNat, b.e / 2 ^ n.c.toNat⟩ else none)
    else if op = 21 then (if conB a = true then some ⟨bits .or .i64 (wrap64 (a.c * 65536)) n.c, 0, 0⟩ else none)
    else none
  else none
def takenA (B : Bx) (op : Int) (x y : F) : Option Bool :=
  if op = 24 then (if 0 < lo B (subF x y) ∨ hi B (subF x y) < 0 then some false else if subF x y = ⟨0, 0, 0⟩ then some true else none)
  else if op = 25 then (if 0 < lo B (subF x y) ∨ hi B (subF x y) < 0 then some true else if subF x y = ⟨0, 0, 0⟩ then some false else none)
  else if op = 26 then (if hi B (subF x y) < 0 then some true else if 0 ≤ lo B (subF x y) then some false else none)
  else (if hi B (subF x y) < 0 then some false else if 0 ≤ lo B (subF x y) then some true else none)
theorem or8 {a n : Int} (h1 : -9223372036854775808 ≤ a) (h2 : a ≤ 9223372036854775807) (hm : a % 8 = 0) (n1 : 0 ≤ n) (n2 : n < 8) : bits .or .i64 a n = a + n := by
  show IntKind.i64.wrap ((BitVec.ofInt 64 a ||| BitVec.ofInt 64 n).toNat : Nat) = a + n
  rw [BitVec.toNat_or, BitVec.toNat_ofInt, BitVec.toNat_ofInt]
  have e : ((2 ^ 64 : Nat) : Int) = 18446744073709551616 := by decide
  rw [e]
  rw [nat_join 3 _ _ (by omega) (by omega), IntKind.wrap_i64]
  omega
structure I where
  op : Int
  a : Int
  b : Int
  c : Int
  n : F
structure S where
  pc : Nat
  regs : List F
  mem : List (F × F)
def zeroF : F := ⟨0, 0, 0⟩
def read (B : Bx) (a : F) : List (F × F) → Option F
  | [] => some zeroF
  | (b, x) :: l => if subF a b = zeroF then some x else if 0 < lo B (subF a b) ∨ hi B (subF a b) < 0 then read B a l else none
def look (u v : Int) (i : Int) : List (F × F) → Int
  | [] => 0
  | (b, x) :: l => if b.ev u v = i then x.ev u v else look u v i l
theorem zero_ev (u v : Int) : zeroF.ev u v = 0 := by unfold zeroF F.ev; simp
def inM (B : Bx) (L a : F) : Bool := inr B a && decide (0 ≤ lo B a) && decide (hi B (subF a L) < 0)
def S.get (s : S) (i : Int) : F := s.regs.getD i.toNat zeroF
def S.put (s : S) (i : Int) (x : F) : List F := if i = 0 then s.regs else s.regs.set i.toNat x
def step (B : Bx) (L : F) (code : List (Option I)) (s : S) : Option (S × Option F) :=
  match code[s.pc]? with
  | some (some i) =>
    if i.op = 0 then some (s, some (s.get i.a))
    else if i.op ≤ 14 then
      match aluA B i.op (s.get i.b) (s.get i.c) with
      | some x => some (⟨s.pc + 1, s.put i.a x, s.mem⟩, none)
      | none => none
    else if 24 ≤ i.op ∧ i.op ≤ 27 then
      match takenA B i.op (s.get i.a) (s.get i.b) with
      | some true => if conB i.n = true ∧ 0 ≤ (s.pc : Int) + i.n.c then some (⟨((s.pc : Int) + i.n.c).toNat, s.regs, s.mem⟩, none) else none
      | some false => some (⟨s.pc + 1, s.regs, s.mem⟩, none)
      | none => none
    else if i.op = 22 then
      if inM B L (addF (s.get i.b) i.n) = true then
        match read B (addF (s.get i.b) i.n) s.mem with
        | some x => some (⟨s.pc + 1, s.put i.a x, s.mem⟩, none)
        | none => none
      else none
    else if i.op = 23 then
      if inM B L (addF (s.get i.b) i.n) = true then some (⟨s.pc + 1, s.regs, (addF (s.get i.b) i.n, s.get i.a) :: s.mem⟩, none) else none
    else if i.op = 28 then
      if conB i.n = true ∧ 0 ≤ (s.pc : Int) + i.n.c then some (⟨((s.pc : Int) + i.n.c).toNat, s.put i.a ⟨s.pc + 1, 0, 0⟩, s.mem⟩, none) else none
    else if i.op = 29 then
      if conB (s.get i.b) = true ∧ 0 ≤ (s.get i.b).c then some (⟨(s.get i.b).c.toNat, s.put i.a ⟨s.pc + 1, 0, 0⟩, s.mem⟩, none) else none
    else if i.op = 30 ∨ i.op = 31 then none
    else
      match simpA B i.op (s.get i.a) (s.get i.b) i.n with
      | some x => some (⟨s.pc + 1, s.put i.a x, s.mem⟩, none)
      | none => none
  | _ => none
def run (B : Bx) (L : F) (code : List (Option I)) : Nat → S → Option (S × F)
  | 0, _ => none
  | k + 1, s =>
    match step B L code s with
    | some (s', none) => run B L code k s'
    | some (s', some x) => some (s', x)
    | none => none
structure Rel (u v : Int) (L : F) (s : S) (m : M) : Prop where
  pc : m.pc = s.pc
  regs : m.regs = s.regs.map (F.ev u v)
  len : (m.mem.length : Int) = L.ev u v
  mem : ∀ i : Nat, i < m.mem.length → m.mem.getD i 0 = look u v i s.mem
theorem Rel.get {u v : Int} {L : F} {s : S} {m : M} (h : Rel u v L s m) (i : Int) : rget m i = (s.get i).ev u v := by
  unfold rget S.get
  rw [h.regs, List.getD_eq_getElem?_getD, List.getD_eq_getElem?_getD, List.getElem?_map]
  cases s.regs[i.toNat]? with
  | none => exact (zero_ev u v).symm
  | some x => rfl
theorem Rel.put {u v : Int} {L : F} {s : S} {m : M} (h : Rel u v L s m) (i : Int) (x : F) (pc : Nat) (p : Int) (hp : p = pc) : Rel u v L ⟨pc, s.put i x, s.mem⟩ (adv (setReg m i (x.ev u v)) p) := by
  refine ⟨hp, ?_, ?_, ?_⟩
  · unfold setReg S.put adv
    dsimp only
    split
    · exact h.regs
    · dsimp only
      rw [h.regs, List.map_set]
  · show ((setReg m i (x.ev u v)).mem.length : Int) = _
    rw [(setReg_facts m i (x.ev u v)).2.1]
    exact h.len
  · show ∀ k : Nat, k < (setReg m i (x.ev u v)).mem.length → (setReg m i (x.ev u v)).mem.getD k 0 = _
    rw [(setReg_facts m i (x.ev u v)).2.1]
    exact h.mem
theorem Rel.jump {u v : Int} {L : F} {s : S} {m : M} (h : Rel u v L s m) (pc : Nat) (p : Int) (hp : p = pc) : Rel u v L ⟨pc, s.regs, s.mem⟩ (adv m p) := ⟨hp, h.regs, h.len, h.mem⟩
end Ab
end Go.Proofs.Ytaldcgfhlflcpaa
namespace Go.Proofs.Ytaldcgfhlflcpaa
open Go.RowKit
set_option maxRecDepth 100000
set_option linter.unusedVariables false
set_option linter.unusedSimpArgs false
namespace Gc
open Rs
structure V where
  pc : Nat
  r : Nat → Int
  mem : List Int
  st : Int
structure At (m : M) (v : V) : Prop where
  pc : m.pc = v.pc
  regs : m.regs = (List.range 32).map v.r
  zero : v.r 0 = 0
  mem : m.mem = v.mem
  st : m.steps = v.st
def upd (r : Nat → Int) (a : Nat) (x : Int) : Nat → Int := fun i => if i = a then x else r i
theorem upd_same (r : Nat → Int) (a : Nat) (x : Int) : upd r a x a = x := if_pos rfl
theorem upd_ne (r : Nat → Int) (a : Nat) (x : Int) {i : Nat} (h : i ≠ a) : upd r a x i = r i := if_neg h
structure Has (code : List Int) (p : Nat) (op a b c n : Int) : Prop where
  lt : p < code.length
  dec : decB (code.getD p 0) = true
  ex : ∀ m, execW (code.getD p 0) m = exec op a b c n m
def Runs (code : List Int) (v : V) (n : Nat) (v' : V) : Prop := ∀ m k, At m v → ∃ m', go code (n + k) m = go code k m' ∧ At m' v'
theorem Runs.refl (code : List Int) (v : V) : Runs code v 0 v := fun m k h => ⟨m, by rw [Nat.zero_add], h⟩
theorem Runs.trans {code : List Int} {v v1 v2 : V} {n n' : Nat} (h : Runs code v n v1) (h' : Runs code v1 n' v2) : Runs code v (n + n') v2 := fun m k hm => by
  obtain ⟨m1, e1, h1⟩ := h m (n' + k) hm
  obtain ⟨m2, e2, h2⟩ := h' m1 k h1
  exact ⟨m2, by rw [Nat.add_assoc, e1, e2], h2⟩
theorem Runs.cast {code : List Int} {v v' : V} {n n' : Nat} (h : Runs code v n v') (e : n = n') : Runs code v n' v' := e ▸ h
theorem At.get {m : M} {v : V} (h : At m v) (i : Nat) (hi : i < 32) : rget m (i : Int) = v.r i := by
  unfold rget
  rw [h.regs, List.getD_eq_getElem?_getD, Int.toNat_natCast, List.getElem?_map, List.getElem?_range hi]
  rfl
theorem At.set {m : M} {v : V} (h : At m v) (a : Nat) (ha : a ≠ 0) (x : Int) (p : Int) (q : Nat) (hp : p = q) : At (adv (setReg m (a : Int) x) p) ⟨q, upd v.r a x, v.mem, v.st + 1⟩ := by
  have e : setReg m (a : Int) x = { m with regs := m.regs.set a x } := by
    unfold setReg
    rw [if_neg (by omega), Int.toNat_natCast]
  rw [e]
  refine ⟨hp, ?_, ?_, h.mem, by show m.steps + 1 = _; rw [h.st]⟩
  · show m.regs.set a x = (List.range 32).map (upd v.r a x)
    rw [h.regs]
    refine List.ext_getElem? fun i => ?_
    rw [List.getElem?_set, List.getElem?_map, List.getElem?_map, List.length_map, List.length_range]
    by_cases hi : i < 32
    · rw [List.getElem?_range hi]
      by_cases hia : a = i
      · subst hia; rw [if_pos rfl, if_pos hi, Option.map_some, upd_same]
      · rw [if_neg hia, Option.map_some, Option.map_some, upd_ne _ _ _ (fun e => hia e.symm)]
    · rw [List.getElem?_eq_none (by rw [List.length_range]; omega)]
      by_cases hia : a = i
      · subst hia; rw [if_pos rfl, if_neg hi]; rfl
      · rw [if_neg hia]; rfl
  · show upd v.r a x 0 = 0
    rw [upd_ne _ _ _ (fun e => ha e.symm), h.zero]
theorem At.jump {m : M} {v : V} (h : At m v) (p : Int) (q : Nat) (hp : p = q) : At (adv m p) ⟨q, v.r, v.mem, v.st + 1⟩ := ⟨hp, h.regs, h.zero, h.mem, by show m.steps + 1 = _; rw [h.st]⟩
theorem runs_one {code : List Int} {v v' : V} {op a b c n : Int} (h : Has code v.pc op a b c n) (he : ∀ m, At m v → ∃ m', exec op a b c n m = (m', 6) ∧ At m' v') : Runs code v 1 v' := fun m k hm => by
  obtain ⟨m', e, h'⟩ := he m hm
  refine ⟨m', ?_, h'⟩
  have hpc := hm.pc
  have hl := h.lt
  rw [Nat.add_comm, go, if_neg (by rw [hpc]; omega), hpc, Int.toNat_natCast, h.dec, if_neg (by decide), h.ex, e, if_pos rfl]
section
variable {code : List Int} {v : V} {op ai bi ci n : Int}
theorem r_with (a b : Nat) (x : Int) (h : Has code v.pc op ai bi ci n) (ha : ai = a) (hb : bi = b) (a0 : a ≠ 0) (a1 : a < 32) (b1 : b < 32) (ho : 15 ≤ op ∧ op ≤ 21) (hx : Rs.simp op (v.r a) (v.r b) n = x) : Runs code v 1 ⟨v.pc + 1, upd v.r a x, v.mem, v.st + 1⟩ := by
  subst ha hb
  refine runs_one h fun m hm => ?_
  unfold exec
  dsimp only
  rw [hm.get a a1, hm.get b b1, hx]
  rw [if_neg (by omega), if_neg (by omega), if_neg (by omega), if_neg (by omega), if_neg (by omega), if_neg (by omega), if_neg (by omega), if_neg (by omega), if_neg (by omega)]
  exact ⟨_, rfl, hm.set a a0 x _ _ (by rw [hm.pc]; rfl)⟩
theorem r_three (a b c : Nat) (x : Int) (h : Has code v.pc op ai bi ci n) (ha : ai = a) (hb : bi = b) (hc : ci = c) (a0 : a ≠ 0) (b1 : b < 32) (c1 : c < 32) (ho : op = 1 ∨ op = 2) (hx : alu op (v.r b) (v.r c) = x) : Runs code v 1 ⟨v.pc + 1, upd v.r a x, v.mem, v.st + 1⟩ := by
  subst ha hb hc
  refine runs_one h fun m hm => ?_
  unfold exec
  dsimp only
  rw [hm.get b b1, hm.get c c1, hx]
  rw [if_neg (by omega), if_pos (by omega), if_neg (by omega)]
  exact ⟨_, rfl, hm.set a a0 x _ _ (by rw [hm.pc]; rfl)⟩
theorem r_load (a b x : Nat) (h : Has code v.pc 22 ai bi ci n) (ha : ai = a) (hb : bi = b) (a0 : a ≠ 0) (b1 : b < 32) (hx : v.r b + n = x) (hl : x < v.mem.length) (hs : v.mem.length ≤ 1048576) : Runs code v 1 ⟨v.pc + 1, upd v.r a (v.mem.getD x 0), v.mem, v.st + 1⟩ := by
  subst ha hb
  refine runs_one h fun m hm => ?_
  unfold exec
  dsimp only
  rw [hm.get b b1, hx]
  have hw : wrap64 (x : Int) = x := by simp only [wrap64]; omega
  rw [if_neg (by decide), if_neg (by decide), if_neg (by decide), if_pos rfl, hw, if_neg (by rw [hm.mem]; omega), hm.mem, Int.toNat_natCast]
  exact ⟨_, rfl, hm.set a a0 _ _ _ (by rw [hm.pc]; rfl)⟩
theorem r_store (a b x : Nat) (h : Has code v.pc 23 ai bi ci n) (ha : ai = a) (hb : bi = b) (a1 : a < 32) (b1 : b < 32) (hx : v.r b + n = x) (hl : x < v.mem.length) (hs : v.mem.length ≤ 1048576) : Runs code v 1 ⟨v.pc + 1, v.r, v.mem.set x (v.r a), v.st + 1⟩ := by
  subst ha hb
  refine runs_one h fun m hm => ?_
  unfold exec
  dsimp only
  rw [hm.get b b1, hm.get a a1, hx]
  have hw : wrap64 (x : Int) = x := by simp only [wrap64]; omega
  rw [if_neg (by decide), if_neg (by decide), if_neg (by decide), if_neg (by decide), if_pos rfl, hw, if_neg (by rw [hm.mem]; omega), hm.mem, Int.toNat_natCast]
  exact ⟨_, rfl, by show m.pc + 1 = _; rw [hm.pc]; rfl, hm.regs, hm.zero, rfl, by show m.steps + 1 = _; rw [hm.st]⟩
theorem r_taken (a b q : Nat) (h : Has code v.pc op ai bi ci n) (ha : ai = a) (hb : bi = b) (a1 : a < 32) (b1 : b < 32) (ho : 24 ≤ op ∧ op ≤ 27) (ht : takenB op (v.r a) (v.r b) = true) (hq : (v.pc : Int) + n = q) : Runs code v 1 ⟨q, v.r, v.mem, v.st + 1⟩ := by
  subst ha hb
  refine runs_one h fun m hm => ?_
  unfold exec
  dsimp only
  rw [hm.get b b1, hm.get a a1]
  rw [if_neg (by omega), if_neg (by omega), if_pos ho, ht, if_pos rfl]
  exact ⟨_, rfl, hm.jump _ _ (by rw [hm.pc]; exact hq)⟩
theorem r_not (a b : Nat) (h : Has code v.pc op ai bi ci n) (ha : ai = a) (hb : bi = b) (a1 : a < 32) (b1 : b < 32) (ho : 24 ≤ op ∧ op ≤ 27) (ht : takenB op (v.r a) (v.r b) = false) : Runs code v 1 ⟨v.pc + 1, v.r, v.mem, v.st + 1⟩ := by
  subst ha hb
  refine runs_one h fun m hm => ?_
  unfold exec
  dsimp only
  rw [hm.get b b1, hm.get a a1]
  rw [if_neg (by omega), if_neg (by omega), if_pos ho, ht, if_neg (by decide)]
  exact ⟨_, rfl, hm.jump _ _ (by rw [hm.pc]; rfl)⟩
theorem r_jmp (q : Nat) (h : Has code v.pc 28 0 bi ci n) (hq : (v.pc : Int) + n = q) : Runs code v 1 ⟨q, v.r, v.mem, v.st + 1⟩ := by
  refine runs_one h fun m hm => ?_
  unfold exec
  dsimp only
  rw [if_neg (by decide), if_neg (by decide), if_neg (by decide), if_neg (by decide), if_neg (by decide), if_pos rfl]
  exact ⟨_, rfl, hm.jump _ _ (by rw [hm.pc]; exact hq)⟩
theorem r_jal (a q : Nat) (h : Has code v.pc 28 ai bi ci n) (ha : ai = a) (a0 : a ≠ 0) (hq : (v.pc : Int) + n = q) : Runs code v 1 ⟨q, upd v.r a ((v.pc + 1 : Nat) : Int), v.mem, v.st + 1⟩ := by
  subst ha
  refine runs_one h fun m hm => ?_
  unfold exec
  dsimp only
  rw [if_neg (by decide), if_neg (by decide), if_neg (by decide), if_neg (by decide), if_neg (by decide), if_pos rfl, hm.pc]
  exact ⟨_, rfl, hm.set a a0 _ _ _ hq⟩
theorem r_jalr (b q : Nat) (h : Has code v.pc 29 0 bi ci n) (hb : bi = b) (b1 : b < 32) (hq : v.r b = q) : Runs code v 1 ⟨q, v.r, v.mem, v.st + 1⟩ := by
  subst hb
  refine runs_one h fun m hm => ?_
  unfold exec
  dsimp only
  rw [hm.get b b1, hq]
  rw [if_neg (by decide), if_neg (by decide), if_neg (by decide), if_neg (by decide), if_neg (by decide), if_neg (by decide), if_pos rfl]
  exact ⟨_, rfl, hm.jump _ _ rfl⟩
theorem r_halt (a : Nat) (h : Has code v.pc 0 ai bi ci n) (ha : ai = a) (a1 : a < 32) {m : M} (hm : At m v) (k : Nat) : ∃ m', go code (k + 1) m = (m', 0) ∧ m'.value = v.r a ∧ At m' ⟨v.pc, v.r, v.mem, v.st + 1⟩ := by
  subst ha
  have hpc := hm.pc
  have hl := h.lt
  refine ⟨{ m with value := rget m (a : Int), steps := m.steps + 1 }, ?_, hm.get a a1, hm.pc, hm.regs, hm.zero, hm.mem, by show m.steps + 1 = _; rw [hm.st]⟩
  rw [go, if_neg (by rw [hpc]; omega), hpc, Int.toNat_natCast, h.dec, if_neg (by decide), h.ex]
  unfold exec
  dsimp only
  rw [if_pos rfl, if_neg (show ¬ (0 : Int) = 6 by decide), hpc]
end
end Gc
end Go.Proofs.Ytaldcgfhlflcpaa
namespace Go.Proofs.Ytaldcgfhlflcpaa
open Go.RowKit
set_option linter.unusedVariables false
set_option linter.unusedSimpArgs false
set_option maxRecDepth 100000
namespace Gc
open Rs
def gcT : List (Int × Int × Int × Int × Int) := [(23, 1, 0, 0, 0), (23, 2, 0, 0, 1), (23, 3, 0, 0, 2), (23, 4, 0, 0, 3), (23, 5, 0, 0, 4), (23, 6, 0, 0, 5), (23, 7, 0, 0, 6), (23, 8, 0, 0, 7), (23, 9, 0, 0, 8), (23, 10, 0, 0, 9), (23, 11, 0, 0, 10), (23, 12, 0, 0, 11), (23, 13, 0, 0, 12), (23, 14, 0, 0, 13), (23, 15, 0, 0, 14), (23, 16, 0, 0, 15), (23, 17, 0, 0, 16), (23, 18, 0, 0, 17), (23, 19, 0, 0, 18), (23, 20, 0, 0, 19), (23, 21, 0, 0, 20), (23, 22, 0, 0, 21), (23, 23, 0, 0, 22), (23, 24, 0, 0, 23), (23, 25, 0, 0, 24), (22, 1, 0, 0, 30), (15, 2, 1, 0, 0), (20, 3, 0, 0, 0), (20, 4, 0, 0, 27), (28, 5, 0, 0, 50), (20, 3, 0, 0, 32), (15, 4, 30, 0, 0), (28, 5, 0, 0, 47), (27, 2, 1, 0, 6), (15, 3, 2, 0, 0), (15, 4, 1, 0, 0), (15, 2, 1, 0, 0), (28, 5, 0, 0, 42), (28, 0, 0, 0, -5), (22, 3, 0, 0, 28), (22, 4, 0, 0, 30), (23, 4, 0, 0, 28), (23, 3, 0, 0, 30), (22, 3, 0, 0, 29), (22, 4, 0, 0, 31), (23, 4, 0, 0, 29), (23, 3, 0, 0, 31), (15, 29, 1, 0, 0), (1, 3, 1, 26, 0), (22, 4, 0, 0, 29), (26, 4, 3, 0, 27), (22, 1, 0, 0, 0), (22, 2, 0, 0, 1), (22, 3, 0, 0, 2), (22, 4, 0, 0, 3), (22, 5, 0, 0, 4), (22, 6, 0, 0, 5), (22, 7, 0, 0, 6), (22, 8, 0, 0, 7), (22, 9, 0, 0, 8), (22, 10, 0, 0, 9), (22, 11, 0, 0, 10), (22, 12, 0, 0, 11), (22, 13, 0, 0, 12), (22, 14, 0, 0, 13), (22, 15, 0, 0, 14), (22, 16, 0, 0, 15), (22, 17, 0, 0, 16), (22, 18, 0, 0, 17), (22, 19, 0, 0, 18), (22, 20, 0, 0, 19), (22, 21, 0, 0, 20), (22, 22, 0, 0, 21), (22, 23, 0, 0, 22), (22, 24, 0, 0, 23), (22, 25, 0, 0, 24), (29, 0, 31, 0, 0), (20, 26, 0, 0, 95), (0, 26, 0, 0, 0), (27, 3, 4, 0, 26), (22, 6, 3, 0, 0), (16, 7, 6, 0, 7), (20, 8, 0, 0, 1), (25, 7, 8, 0, 20), (19, 7, 6, 0, 3), (22, 9, 7, 0, 0), (16, 10, 9, 0, 7), (24, 10, 8, 0, 15), (19, 10, 9, 0, 6), (18, 6, 1, 0, 3), (17, 6, 6, 0, 1), (23, 9, 1, 0, 0), (23, 6, 7, 0, 0), (23, 6, 3, 0, 0), (15, 1, 1, 0, 1), (24, 10, 0, 0, 8), (15, 7, 7, 0, 1), (22, 9, 7, 0, 0), (23, 9, 1, 0, 0), (15, 1, 1, 0, 1), (15, 10, 10, 0, -1), (28, 0, 0, 0, -6), (23, 9, 3, 0, 0), (15, 3, 3, 0, 1), (28, 0, 0, 0, -25), (29, 0, 5, 0, 0)]
def decT (x : Int) : Option (Int × Int × Int × Int × Int) := if decB x = true then some (fO x, fA x, fB (fO x) x, fC (fO x) x, fN (fO x) x) else none
theorem gc_tab : (As.code Sg.gcL).map decT = gcT.map some := by kernel_rfl
def GcAt (code : List Int) (b : Nat) : Prop := ∀ i w, (As.code Sg.gcL)[i]? = some w → code[b + i]? = some w
theorem gc_has {code : List Int} {b : Nat} (H : GcAt code b) (i : Nat) {op x y z n : Int} (hi : gcT[i]? = some (op, x, y, z, n)) : Has code (b + i) op x y z n := by
  have ht : ((As.code Sg.gcL).map decT)[i]? = some (some (op, x, y, z, n)) := by rw [gc_tab, List.getElem?_map, hi]; rfl
  rw [List.getElem?_map] at ht
  cases hw : (As.code Sg.gcL)[i]? with
  | none => rw [hw] at ht; cases ht
  | some w =>
    rw [hw] at ht
    have hd : decT w = some (op, x, y, z, n) := by simpa using ht
    have hc := H i w hw
    have hg : code.getD (b + i) 0 = w := by rw [List.getD_eq_getElem?_getD, hc]; rfl
    unfold decT at hd
    split at hd
    · cases hd
      exact ⟨(List.getElem?_eq_some_iff.1 hc).1, by rw [hg]; assumption, fun m => by rw [hg]; rfl⟩
    · cases hd
theorem addi_eq {a y n z : Int} (h : y + n = z) (h1 : -9223372036854775808 ≤ z) (h2 : z ≤ 9223372036854775807) : Rs.simp 15 a y n = z := by
  show wrap64 (y + n) = z
  rw [h]
  simp only [wrap64]
  omega
theorem and7_eq (a y : Int) : Rs.simp 16 a y 7 = y % 8 := by
  show bits .and .i64 y 7 = _
  have := i64_mask 3 (by omega) y
  rwa [show ((2 ^ 3 - 1 : Nat) : Int) = 7 from rfl, show ((2 ^ 3 : Nat) : Int) = 8 from rfl] at this
theorem shr3_eq (a y : Int) : Rs.simp 19 a y 3 = y / 8 := rfl
theorem shr6_eq (a y : Int) : Rs.simp 19 a y 6 = y / 64 := rfl
theorem shl3_eq {a y : Int} (h0 : 0 ≤ y) (h1 : y ≤ 1048576) : Rs.simp 18 a y 3 = 8 * y := by
  show wrap64 (y * 8) = _
  simp only [wrap64]
  omega
theorem or1_eq {a y : Int} (h0 : 0 ≤ y) (h1 : y ≤ 1048576) : Rs.simp 17 a (8 * y) 1 = 8 * y + 1 := Ab.or8 (by omega) (by omega) (by omega) (by omega) (by omega)
def copyW (mem : List Int) (p d : Nat) : Nat → List Int
  | 0 => mem
  | n + 1 => copyW (mem.set d (mem.getD (p + 1) 0)) (p + 1) (d + 1) n
theorem copyW_length (mem : List Int) (p d : Nat) : ∀ n, (copyW mem p d n).length = mem.length := by
  intro n
  induction n generalizing mem p d with
  | zero => rfl
  | succ n ih => rw [copyW, ih, List.length_set]
section
variable {code : List Int} {b : Nat}
theorem copy_run (H : GcAt code b) (hb : b ≤ 1048576) : ∀ (n p d : Nat) (r : Nat → Int) (mem : List Int) (st : Int), r 7 = p → r 1 = d → r 10 = n → r 0 = 0 → p + n < mem.length → d + n ≤ mem.length → mem.length ≤ 1048576 →
    ∃ r', Runs code ⟨b + 95, r, mem, st⟩ (7 * n + 1) ⟨b + 103, r', copyW mem p d n, st + (7 * n + 1 : Nat)⟩ ∧ r' 1 = ((d + n : Nat) : Int) ∧ ∀ i, i ≠ 1 → i ≠ 7 → i ≠ 9 → i ≠ 10 → r' i = r i
  | 0, p, d, r, mem, st, h7, h1, h10, h0, hp, hd, hl => by
    refine ⟨r, ?_, by rw [h1]; rfl, fun _ _ _ _ _ => rfl⟩
    exact r_taken (v := ⟨b + 95, r, mem, st⟩) 10 0 (b + 103) (gc_has H 95 rfl) rfl rfl (by decide) (by decide) (by decide) (by show (r 10 == r 0) = true; rw [h10, h0]; rfl) (by show ((b + 95 : Nat) : Int) + 8 = _; omega)
  | n + 1, p, d, r, mem, st, h7, h1, h10, h0, hp, hd, hl => by
    have s1 := r_not (v := ⟨b + 95, r, mem, st⟩) 10 0 (gc_has H 95 rfl) rfl rfl (by decide) (by decide) (by decide) (by show (r 10 == r 0) = false; rw [h10, h0, beq_eq_false_iff_ne]; omega)
    have s2 := r_with (v := ⟨b + 96, r, mem, st + 1⟩) 7 7 ((p + 1 : Nat) : Int) (gc_has H 96 rfl) rfl rfl (by decide) (by decide) (by decide) (by decide) (addi_eq (by show r 7 + 1 = _; rw [h7]; omega) (by omega) (by omega))
    have s3 := r_load (v := ⟨b + 97, upd r 7 ((p + 1 : Nat) : Int), mem, st + 1 + 1⟩) 9 7 (p + 1) (gc_has H 97 rfl) rfl rfl (by decide) (by decide) (by show upd r 7 ((p + 1 : Nat) : Int) 7 + 0 = ((p + 1 : Nat) : Int); rw [upd_same, Int.add_zero]) (by show p + 1 < mem.length; omega) hl
    generalize hx : mem.getD (p + 1) 0 = x
    dsimp only at s3
    rw [hx] at s3
    generalize hr3 : upd (upd r 7 ((p + 1 : Nat) : Int)) 9 x = r3 at s3
    have e1 : r3 1 = d := by rw [← hr3]; show (if (1 : Nat) = 9 then x else if (1 : Nat) = 7 then _ else r 1) = _; exact h1
    have e7 : r3 7 = ((p + 1 : Nat) : Int) := by rw [← hr3]; rfl
    have e9 : r3 9 = x := by rw [← hr3]; rfl
    have e10 : r3 10 = ((n + 1 : Nat) : Int) := by rw [← hr3]; show r 10 = _; exact h10
    have eo : ∀ i, i ≠ 7 → i ≠ 9 → r3 i = r i := fun i a c => by rw [← hr3, upd_ne _ _ _ c, upd_ne _ _ _ a]
    have s4 := r_store (v := ⟨b + 98, r3, mem, st + 1 + 1 + 1⟩) 9 1 d (gc_has H 98 rfl) rfl rfl (by decide) (by decide) (by show r3 1 + 0 = _; rw [e1]; omega) (by show d < mem.length; omega) hl
    have s5 := r_with (v := ⟨b + 99, r3, mem.set d x, st + 1 + 1 + 1 + 1⟩) 1 1 ((d + 1 : Nat) : Int) (gc_has H 99 rfl) rfl rfl (by decide) (by decide) (by decide) (by decide) (addi_eq (by show r3 1 + 1 = _; rw [e1]; omega) (by omega) (by omega))
    have s6 := r_with (v := ⟨b + 100, upd r3 1 ((d + 1 : Nat) : Int), mem.set d x, st + 1 + 1 + 1 + 1 + 1⟩) 10 10 (n : Int) (gc_has H 100 rfl) rfl rfl (by decide) (by decide) (by decide) (by decide) (addi_eq (by show r3 10 + -1 = _; rw [e10]; omega) (by omega) (by omega))
    generalize hr6 : upd (upd r3 1 ((d + 1 : Nat) : Int)) 10 (n : Int) = r6 at s6
    have s7 := r_jmp (v := ⟨b + 101, r6, mem.set d x, st + 1 + 1 + 1 + 1 + 1 + 1⟩) (b + 95) (gc_has H 101 rfl) (by show ((b + 101 : Nat) : Int) + -6 = _; omega)
    have g1 : r6 1 = ((d + 1 : Nat) : Int) := by rw [← hr6]; rfl
    have g7 : r6 7 = ((p + 1 : Nat) : Int) := by rw [← hr6]; exact e7
    have g10 : r6 10 = (n : Int) := by rw [← hr6]; rfl
    have go' : ∀ i, i ≠ 1 → i ≠ 10 → r6 i = r3 i := fun i a c => by rw [← hr6, upd_ne _ _ _ c, upd_ne _ _ _ a]
    obtain ⟨r', hr, hr1, hro⟩ := copy_run H hb n (p + 1) (d + 1) r6 (mem.set d x) (st + 1 + 1 + 1 + 1 + 1 + 1 + 1) g7 g1 g10 (by rw [go' 0 (by decide) (by decide), eo 0 (by decide) (by decide), h0]) (by rw [List.length_set]; omega) (by rw [List.length_set]; omega) (by rw [List.length_set]; exact hl)
    refine ⟨r', ?_, by rw [hr1]; omega, fun i a1 a7 a9 a10 => by rw [hro i a1 a7 a9 a10, go' i a1 a10, eo i a7 a9]⟩
    dsimp only at s4
    rw [e9] at s4
    have hst : st + 1 + 1 + 1 + 1 + 1 + 1 + 1 + ((7 * n + 1 : Nat) : Int) = st + ((7 * (n + 1) + 1 : Nat) : Int) := by omega
    rw [hst] at hr
    rw [copyW, hx]
    exact (s1.trans (s2.trans (s3.trans (s4.trans (s5.trans (s6.trans (s7.trans hr))))))).cast (by omega)
end
end Gc
end Go.Proofs.Ytaldcgfhlflcpaa
namespace Go.Proofs.Ytaldcgfhlflcpaa
open Go.RowKit
set_option linter.unusedVariables false
set_option linter.unusedSimpArgs false
set_option maxRecDepth 100000
namespace Gc
open Rs
section
variable {code : List Int} {b : Nat}
theorem pre_run (H : GcAt code b) (r : Nat → Int) (mem : List Int) (st : Int) (A E : Nat) (h3 : r 3 = A) (h4 : r 4 = E) (hlt : A < E) (hA : A < mem.length) (hl : mem.length ≤ 1048576) :
    ∃ r', Runs code ⟨b + 79, r, mem, st⟩ 4 ⟨b + 83, r', mem, st + 4⟩ ∧ r' 6 = mem.getD A 0 ∧ r' 7 = mem.getD A 0 % 8 ∧ r' 8 = 1 ∧ ∀ i, i ≠ 6 → i ≠ 7 → i ≠ 8 → r' i = r i := by
  generalize hw : mem.getD A 0 = w
  have s1 := r_not (v := ⟨b + 79, r, mem, st⟩) 3 4 (gc_has H 79 rfl) rfl rfl (by decide) (by decide) (by decide) (by show decide (r 4 ≤ r 3) = false; rw [h3, h4, decide_eq_false_iff_not]; omega)
  have s2 := r_load (v := ⟨b + 80, r, mem, st + 1⟩) 6 3 A (gc_has H 80 rfl) rfl rfl (by decide) (by decide) (by show r 3 + 0 = _; rw [h3, Int.add_zero]) hA hl
  dsimp only at s2
  rw [hw] at s2
  have s3 := r_with (v := ⟨b + 81, upd r 6 w, mem, st + 1 + 1⟩) 7 6 (w % 8) (gc_has H 81 rfl) rfl rfl (by decide) (by decide) (by decide) (by decide) (and7_eq _ _)
  have s4 := r_with (v := ⟨b + 82, upd (upd r 6 w) 7 (w % 8), mem, st + 1 + 1 + 1⟩) 8 0 1 (gc_has H 82 rfl) rfl rfl (by decide) (by decide) (by decide) (by decide) rfl
  refine ⟨_, (s1.trans (s2.trans (s3.trans s4))).cast rfl |> fun h => (by rw [show st + 4 = st + 1 + 1 + 1 + 1 by omega]; exact h), rfl, rfl, rfl, fun i a1 a2 a3 => ?_⟩
  dsimp only
  rw [upd_ne _ _ _ a3, upd_ne _ _ _ a2, upd_ne _ _ _ a1]
theorem next_run (H : GcAt code b) (r : Nat → Int) (mem : List Int) (st : Int) (A : Nat) (h3 : r 3 = A) (hA : A ≤ 1048576) : Runs code ⟨b + 103, r, mem, st⟩ 2 ⟨b + 79, upd r 3 ((A + 1 : Nat) : Int), mem, st + 2⟩ := by
  have s1 := r_with (v := ⟨b + 103, r, mem, st⟩) 3 3 ((A + 1 : Nat) : Int) (gc_has H 103 rfl) rfl rfl (by decide) (by decide) (by decide) (by decide) (addi_eq (by show r 3 + 1 = _; rw [h3]; omega) (by omega) (by omega))
  have s2 := r_jmp (v := ⟨b + 104, upd r 3 ((A + 1 : Nat) : Int), mem, st + 1⟩) (b + 79) (gc_has H 104 rfl) (by show ((b + 104 : Nat) : Int) + -25 = _; omega)
  have := s1.trans s2
  rw [show st + 2 = st + 1 + 1 by omega]
  exact this
structure Frm (r r' : Nat → Int) (A free : Nat) : Prop where
  r1 : r' 1 = free
  r3 : r' 3 = ((A + 1 : Nat) : Int)
  o : ∀ i, i ≠ 1 → i ≠ 3 → i ≠ 6 → i ≠ 7 → i ≠ 8 → i ≠ 9 → i ≠ 10 → r' i = r i
theorem fwd_raw (H : GcAt code b) (r : Nat → Int) (mem : List Int) (st : Int) (A E free : Nat) (h1 : r 1 = free) (h3 : r 3 = A) (h4 : r 4 = E) (hlt : A < E) (hA : A < mem.length) (hl : mem.length ≤ 1048576) (hw : mem.getD A 0 % 8 ≠ 1) :
    ∃ r', Runs code ⟨b + 79, r, mem, st⟩ 7 ⟨b + 79, r', mem, st + 7⟩ ∧ Frm r r' A free := by
  obtain ⟨r5, s1, e6, e7, e8, eo⟩ := pre_run H r mem st A E h3 h4 hlt hA hl
  have s2 := r_taken (v := ⟨b + 83, r5, mem, st + 4⟩) 7 8 (b + 103) (gc_has H 83 rfl) rfl rfl (by decide) (by decide) (by decide) (by show (r5 7 != r5 8) = true; rw [e7, e8, bne_iff_ne]; exact hw) (by show ((b + 83 : Nat) : Int) + 20 = _; omega)
  have s3 := next_run H r5 mem (st + 4 + 1) A (by rw [eo 3 (by decide) (by decide) (by decide), h3]) (by omega)
  have hs := (s1.trans (s2.trans s3)).cast (show 4 + (1 + 2) = 7 from rfl)
  rw [show st + 4 + 1 + 2 = st + 7 by omega] at hs
  exact ⟨_, hs, by show r5 1 = _; rw [eo 1 (by decide) (by decide) (by decide), h1], rfl, fun i a1 a3 a6 a7 a8 a9 a10 => by rw [upd_ne _ _ _ a3, eo i a6 a7 a8]⟩
theorem head_run (H : GcAt code b) (r : Nat → Int) (mem : List Int) (st : Int) (A E p : Nat) (h3 : r 3 = A) (h4 : r 4 = E) (hlt : A < E) (hA : A < mem.length) (hl : mem.length ≤ 1048576) (hw : mem.getD A 0 = 8 * (p : Int) + 1) (hp : p < mem.length) :
    ∃ r', Runs code ⟨b + 79, r, mem, st⟩ 8 ⟨b + 87, r', mem, st + 8⟩ ∧ r' 7 = p ∧ r' 8 = 1 ∧ r' 9 = mem.getD p 0 ∧ r' 10 = mem.getD p 0 % 8 ∧ ∀ i, i ≠ 6 → i ≠ 7 → i ≠ 8 → i ≠ 9 → i ≠ 10 → r' i = r i := by
  obtain ⟨r5, s1, e6, e7, e8, eo⟩ := pre_run H r mem st A E h3 h4 hlt hA hl
  rw [hw] at e6 e7
  have s2 := r_not (v := ⟨b + 83, r5, mem, st + 4⟩) 7 8 (gc_has H 83 rfl) rfl rfl (by decide) (by decide) (by decide) (by show (r5 7 != r5 8) = false; rw [e7, e8, bne_eq_false_iff_eq]; omega)
  have s3 := r_with (v := ⟨b + 84, r5, mem, st + 4 + 1⟩) 7 6 (p : Int) (gc_has H 84 rfl) rfl rfl (by decide) (by decide) (by decide) (by decide) (by show Rs.simp 19 (r5 7) (r5 6) 3 = _; rw [e6, shr3_eq]; omega)
  generalize hh : mem.getD p 0 = h
  have s4 := r_load (v := ⟨b + 85, upd r5 7 (p : Int), mem, st + 4 + 1 + 1⟩) 9 7 p (gc_has H 85 rfl) rfl rfl (by decide) (by decide) (by show upd r5 7 (p : Int) 7 + 0 = (p : Int); rw [upd_same, Int.add_zero]) hp hl
  dsimp only at s4
  rw [hh] at s4
  have s5 := r_with (v := ⟨b + 86, upd (upd r5 7 (p : Int)) 9 h, mem, st + 4 + 1 + 1 + 1⟩) 10 9 (h % 8) (gc_has H 86 rfl) rfl rfl (by decide) (by decide) (by decide) (by decide) (and7_eq _ _)
  have hs := (s1.trans (s2.trans (s3.trans (s4.trans s5)))).cast (show 4 + (1 + (1 + (1 + 1))) = 8 from rfl)
  rw [show st + 8 = st + 4 + 1 + 1 + 1 + 1 by omega]
  refine ⟨_, hs, rfl, e8, rfl, rfl, fun i a6 a7 a8 a9 a10 => ?_⟩
  dsimp only
  rw [upd_ne _ _ _ a10, upd_ne _ _ _ a9, upd_ne _ _ _ a7, eo i a6 a7 a8]
theorem fwd_old (H : GcAt code b) (r : Nat → Int) (mem : List Int) (st : Int) (A E free p : Nat) (h1 : r 1 = free) (h3 : r 3 = A) (h4 : r 4 = E) (hlt : A < E) (hA : A < mem.length) (hl : mem.length ≤ 1048576) (hw : mem.getD A 0 = 8 * (p : Int) + 1) (hp : p < mem.length) (hh : mem.getD p 0 % 8 = 1) :
    ∃ r', Runs code ⟨b + 79, r, mem, st⟩ 12 ⟨b + 79, r', mem.set A (mem.getD p 0), st + 12⟩ ∧ Frm r r' A free := by
  obtain ⟨r5, s1, e7, e8, e9, e10, eo⟩ := head_run H r mem st A E p h3 h4 hlt hA hl hw hp
  have s2 := r_taken (v := ⟨b + 87, r5, mem, st + 8⟩) 10 8 (b + 102) (gc_has H 87 rfl) rfl rfl (by decide) (by decide) (by decide) (by show (r5 10 == r5 8) = true; rw [e10, e8, hh]; rfl) (by show ((b + 87 : Nat) : Int) + 15 = _; omega)
  have e3 : r5 3 = A := by rw [eo 3 (by decide) (by decide) (by decide) (by decide) (by decide), h3]
  have s3 := r_store (v := ⟨b + 102, r5, mem, st + 8 + 1⟩) 9 3 A (gc_has H 102 rfl) rfl rfl (by decide) (by decide) (by show r5 3 + 0 = _; rw [e3, Int.add_zero]) hA hl
  dsimp only at s3
  rw [e9] at s3
  have s4 := next_run H r5 (mem.set A (mem.getD p 0)) (st + 8 + 1 + 1) A e3 (by omega)
  have hs := (s1.trans (s2.trans (s3.trans s4))).cast (show 8 + (1 + (1 + 2)) = 12 from rfl)
  rw [show st + 8 + 1 + 1 + 2 = st + 12 by omega] at hs
  exact ⟨_, hs, by show r5 1 = _; rw [eo 1 (by decide) (by decide) (by decide) (by decide) (by decide), h1], rfl, fun i a1 a3 a6 a7 a8 a9 a10 => by rw [upd_ne _ _ _ a3, eo i a6 a7 a8 a9 a10]⟩
def moved (mem : List Int) (A p free n : Nat) : List Int := copyW (((mem.set free (mem.getD p 0)).set p (8 * (free : Int) + 1)).set A (8 * (free : Int) + 1)) p (free + 1) n
theorem fwd_new (H : GcAt code b) (hb : b ≤ 1048576) (r : Nat → Int) (mem : List Int) (st : Int) (A E free p n : Nat) (h0 : r 0 = 0) (h1 : r 1 = free) (h3 : r 3 = A) (h4 : r 4 = E) (hlt : A < E) (hA : A < mem.length) (hl : mem.length ≤ 1048576) (hw : mem.getD A 0 = 8 * (p : Int) + 1) (hp : p + n < mem.length) (hh : mem.getD p 0 % 8 ≠ 1) (hn : mem.getD p 0 / 64 = n) (hf : free + 1 + n ≤ mem.length) :
    ∃ r', Runs code ⟨b + 79, r, mem, st⟩ (19 + 7 * n) ⟨b + 79, r', moved mem A p free n, st + (19 + 7 * n : Nat)⟩ ∧ Frm r r' A (free + 1 + n) := by
  obtain ⟨r5, s1, e7, e8, e9, e10, eo⟩ := head_run H r mem st A E p h3 h4 hlt hA hl hw (by omega)
  have s2 := r_not (v := ⟨b + 87, r5, mem, st + 8⟩) 10 8 (gc_has H 87 rfl) rfl rfl (by decide) (by decide) (by decide) (by show (r5 10 == r5 8) = false; rw [e10, e8, beq_eq_false_iff_ne]; exact hh)
  have e1 : r5 1 = free := by rw [eo 1 (by decide) (by decide) (by decide) (by decide) (by decide), h1]
  have e3 : r5 3 = A := by rw [eo 3 (by decide) (by decide) (by decide) (by decide) (by decide), h3]
  generalize hhd : mem.getD p 0 = h at *
  have s3 := r_with (v := ⟨b + 88, r5, mem, st + 8 + 1⟩) 10 9 (n : Int) (gc_has H 88 rfl) rfl rfl (by decide) (by decide) (by decide) (by decide) (by show Rs.simp 19 (r5 10) (r5 9) 6 = _; rw [e9, shr6_eq, hn])
  generalize hr6 : upd r5 10 (n : Int) = r6 at s3
  have f1 : r6 1 = free := by rw [← hr6]; exact e1
  have f7 : r6 7 = p := by rw [← hr6]; exact e7
  have f9 : r6 9 = h := by rw [← hr6]; exact e9
  have f3 : r6 3 = A := by rw [← hr6]; exact e3
  have f10 : r6 10 = n := by rw [← hr6]; rfl
  have fo : ∀ i, i ≠ 10 → r6 i = r5 i := fun i a => by rw [← hr6, upd_ne _ _ _ a]
  have s4 := r_with (v := ⟨b + 89, r6, mem, st + 8 + 1 + 1⟩) 6 1 (8 * (free : Int)) (gc_has H 89 rfl) rfl rfl (by decide) (by decide) (by decide) (by decide) (by show Rs.simp 18 (r6 6) (r6 1) 3 = _; rw [f1]; exact shl3_eq (by omega) (by omega))
  have s5 := r_with (v := ⟨b + 90, upd r6 6 (8 * (free : Int)), mem, st + 8 + 1 + 1 + 1⟩) 6 6 (8 * (free : Int) + 1) (gc_has H 90 rfl) rfl rfl (by decide) (by decide) (by decide) (by decide) (or1_eq (by omega) (by omega))
  generalize hr8 : upd (upd r6 6 (8 * (free : Int))) 6 (8 * (free : Int) + 1) = r8 at s5
  have g1 : r8 1 = free := by rw [← hr8]; exact f1
  have g6 : r8 6 = 8 * (free : Int) + 1 := by rw [← hr8]; rfl
  have g7 : r8 7 = p := by rw [← hr8]; exact f7
  have g9 : r8 9 = h := by rw [← hr8]; exact f9
  have g3 : r8 3 = A := by rw [← hr8]; exact f3
  have g10 : r8 10 = n := by rw [← hr8]; exact f10
  have gro : ∀ i, i ≠ 6 → r8 i = r6 i := fun i a => by rw [← hr8, upd_ne _ _ _ a, upd_ne _ _ _ a]
  have s6 := r_store (v := ⟨b + 91, r8, mem, st + 8 + 1 + 1 + 1 + 1⟩) 9 1 free (gc_has H 91 rfl) rfl rfl (by decide) (by decide) (by show r8 1 + 0 = _; rw [g1, Int.add_zero]) (by show free < mem.length; omega) hl
  dsimp only at s6
  rw [g9] at s6
  have s7 := r_store (v := ⟨b + 92, r8, mem.set free h, st + 8 + 1 + 1 + 1 + 1 + 1⟩) 6 7 p (gc_has H 92 rfl) rfl rfl (by decide) (by decide) (by show r8 7 + 0 = _; rw [g7, Int.add_zero]) (by show p < (mem.set free h).length; rw [List.length_set]; omega) (by show (mem.set free h).length ≤ _; rw [List.length_set]; exact hl)
  dsimp only at s7
  rw [g6] at s7
  have s8 := r_store (v := ⟨b + 93, r8, (mem.set free h).set p (8 * (free : Int) + 1), st + 8 + 1 + 1 + 1 + 1 + 1 + 1⟩) 6 3 A (gc_has H 93 rfl) rfl rfl (by decide) (by decide) (by show r8 3 + 0 = _; rw [g3, Int.add_zero]) (by show A < ((mem.set free h).set p _).length; rw [List.length_set, List.length_set]; omega) (by show ((mem.set free h).set p _).length ≤ _; rw [List.length_set, List.length_set]; exact hl)
  dsimp only at s8
  rw [g6] at s8
  have s9 := r_with (v := ⟨b + 94, r8, ((mem.set free h).set p (8 * (free : Int) + 1)).set A (8 * (free : Int) + 1), st + 8 + 1 + 1 + 1 + 1 + 1 + 1 + 1⟩) 1 1 ((free + 1 : Nat) : Int) (gc_has H 94 rfl) rfl rfl (by decide) (by decide) (by decide) (by decide) (addi_eq (by show r8 1 + 1 = _; rw [g1]; omega) (by omega) (by omega))
  have hml : (((mem.set free h).set p (8 * (free : Int) + 1)).set A (8 * (free : Int) + 1)).length = mem.length := by simp only [List.length_set]
  generalize hmm : ((mem.set free h).set p (8 * (free : Int) + 1)).set A (8 * (free : Int) + 1) = mm at *
  have k0 : upd r8 1 ((free + 1 : Nat) : Int) 0 = 0 := by rw [upd_ne _ _ _ (by decide), gro 0 (by decide), fo 0 (by decide), eo 0 (by decide) (by decide) (by decide) (by decide) (by decide), h0]
  obtain ⟨r9, s10, q1, qo⟩ := copy_run H hb n p (free + 1) (upd r8 1 ((free + 1 : Nat) : Int)) mm (st + 8 + 1 + 1 + 1 + 1 + 1 + 1 + 1 + 1) g7 rfl g10 k0 (by rw [hml]; omega) (by rw [hml]; omega) (by rw [hml]; exact hl)
  have q3 : r9 3 = A := by rw [qo 3 (by decide) (by decide) (by decide) (by decide)]; exact g3
  have s11 := next_run H r9 (copyW mm p (free + 1) n) (st + 8 + 1 + 1 + 1 + 1 + 1 + 1 + 1 + 1 + (7 * n + 1 : Nat)) A q3 (by omega)
  have hs := (s1.trans (s2.trans (s3.trans (s4.trans (s5.trans (s6.trans (s7.trans (s8.trans (s9.trans (s10.trans s11)))))))))).cast (show 8 + (1 + (1 + (1 + (1 + (1 + (1 + (1 + (1 + (7 * n + 1 + 2))))))))) = 19 + 7 * n by omega)
  rw [show st + 8 + 1 + 1 + 1 + 1 + 1 + 1 + 1 + 1 + (7 * n + 1 : Nat) + 2 = st + (19 + 7 * n : Nat) by omega] at hs
  unfold moved
  rw [hhd, hmm]
  refine ⟨_, hs, ?_, rfl, fun i a1 a3 a6 a7 a8 a9 a10 => ?_⟩
  · show r9 1 = _
    exact q1
  · rw [upd_ne _ _ _ a3, qo i a1 a7 a9 a10, upd_ne _ _ _ a1, gro i a6, fo i a10, eo i a6 a7 a8 a9 a10]
end
end Gc
end Go.Proofs.Ytaldcgfhlflcpaa
namespace Go.Proofs.Ytaldcgfhlflcpaa
open Go.RowKit
set_option maxRecDepth 100000
set_option linter.unusedVariables false
set_option linter.unusedSimpArgs false
namespace Gc
structure E where
  hd : Nat → Int
  ws : Nat → List W
  roots : List W
  pl : Nat → Nat
  lo : Nat
  hi : Nat
  oth : Nat
  s : Nat
  size : Nat
  len : Nat
def enc (p : Nat → Nat) : W → Int
  | .raw z => z
  | .ref j => 8 * (p j : Int) + 1
namespace E
variable (e : E)
def sz (j : Nat) : Nat := 1 + (e.ws j).length
def wh (j : Nat) : List W := .raw (e.hd j) :: e.ws j
def R (j : Nat) : Prop := Reach e.ws e.roots j
def o (k : Nat) : List Nat := ord e.wh e.roots k
def q (k : Nat) : List W := que e.wh e.roots (e.o k)
def addr (c : Nat) : Nat := if c < 27 then c else if c < 27 + e.s then c + 5 else e.oth + (c - (27 + e.s))
def np (l : List Nat) (j : Nat) : Nat := e.oth + tot e.sz (l.takeWhile (· ≠ j))
def free (k : Nat) : Nat := e.oth + tot e.sz (e.o k)
structure Ok : Prop where
  nr : e.roots.length = 27 + e.s
  rawR : ∀ z, W.raw z ∈ e.roots → z % 8 ≠ 1
  rawW : ∀ j z, e.R j → W.raw z ∈ e.ws j → z % 8 ≠ 1
  head : ∀ j, e.R j → e.hd j % 8 = 7 ∧ e.hd j / 64 = (e.ws j).length
  in_ : ∀ j, e.R j → e.lo ≤ e.pl j ∧ e.pl j + e.sz j ≤ e.hi
  apart : ∀ i j, e.R i → e.R j → i ≠ j → e.pl i + e.sz i ≤ e.pl j ∨ e.pl j + e.sz j ≤ e.pl i
  low : 32 + e.s ≤ e.lo
  low' : 32 + e.s ≤ e.oth
  sep : e.hi ≤ e.oth ∨ e.oth + e.size ≤ e.lo
  top : e.hi ≤ e.len ∧ e.oth + e.size ≤ e.len
  fits : ∀ l : List Nat, l.Nodup → (∀ j ∈ l, e.R j) → tot e.sz l ≤ e.size
  small : e.len ≤ 1048576
structure Inv (k : Nat) (mem0 mem : List Int) : Prop where
  len : mem.length = e.len
  i1 : ∀ j, e.R j → j ∉ e.o k → mem.getD (e.pl j) 0 = e.hd j
  i2 : ∀ j, j ∈ e.o k → mem.getD (e.pl j) 0 = 8 * (e.np (e.o k) j : Int) + 1
  i3 : ∀ j, e.R j → ∀ t w, (e.ws j)[t]? = some w → mem.getD (e.pl j + 1 + t) 0 = enc e.pl w
  i4 : ∀ c w, (e.q k)[c]? = some w → mem.getD (e.addr c) 0 = enc (if c < k then e.np (e.o k) else e.pl) w
  i5 : ∀ i, 28 ≤ i → i < 32 → mem.getD i 0 = mem0.getD i 0
variable {e}
theorem reach_of {k j : Nat} (h : j ∈ e.o k) : e.R j := reach_head.1 (ord_reach k j h)
theorem sz_wh (j : Nat) : (e.wh j).length = e.sz j := by unfold wh sz; rw [List.length_cons]; omega
theorem q_len (h : e.Ok) (k : Nat) : (e.q k).length = 27 + e.s + tot e.sz (e.o k) := by
  unfold q
  rw [que_len, h.nr]
  have : (fun j => (e.wh j).length) = e.sz := funext sz_wh
  rw [this]
theorem tot_le (h : e.Ok) (k : Nat) : tot e.sz (e.o k) ≤ e.size := h.fits _ (ord_nodup k) fun j hj => reach_of hj
theorem ref_reach {k c j : Nat} (hc : (e.q k)[c]? = some (.ref j)) : e.R j := reach_head.1 (que_reach (ord_reach k) (List.mem_of_getElem? hc))
theorem raw_ne (h : e.Ok) {k c : Nat} {z : Int} (hc : (e.q k)[c]? = some (.raw z)) : z % 8 ≠ 1 := by
  have hm := List.mem_of_getElem? hc
  unfold q que at hm
  rcases List.mem_append.1 hm with hm | hm
  · exact h.rawR z hm
  · obtain ⟨j, hj, hm⟩ := List.mem_flatMap.1 hm
    rcases List.mem_cons.1 hm with hm | hm
    · injection hm with hm
      have := (h.head j (reach_of hj)).1
      omega
    · exact h.rawW j z (reach_of hj) hm
theorem addr_in (h : e.Ok) {k c : Nat} (hc : c < (e.q k).length) : (e.addr c < 27 ∧ e.addr c = c) ∨ (27 ≤ c ∧ c < 27 + e.s ∧ e.addr c = c + 5) ∨ (27 + e.s ≤ c ∧ e.addr c = e.oth + (c - (27 + e.s)) ∧ e.addr c < e.free k) := by
  rw [q_len h] at hc
  unfold addr free
  split
  · exact .inl ⟨by omega, rfl⟩
  · split
    · exact .inr (.inl ⟨by omega, by omega, rfl⟩)
    · exact .inr (.inr ⟨by omega, rfl, by omega⟩)
theorem addr_lt (h : e.Ok) {k c : Nat} (hc : c < (e.q k).length) : e.addr c < e.len := by
  have h1 := tot_le h k
  have h2 := h.top
  have h3 := h.low'
  rcases addr_in h hc with ⟨a, b⟩ | ⟨a, b, d⟩ | ⟨a, b, d⟩
  · omega
  · omega
  · unfold free at d; omega
theorem addr_inj (h : e.Ok) {c d : Nat} (hcd : e.addr c = e.addr d) : c = d := by
  have h3 := h.low'
  unfold addr at hcd
  split at hcd <;> split at hcd <;> (try split at hcd) <;> (try split at hcd) <;> omega
theorem addr_out (h : e.Ok) {k c j : Nat} (hc : c < (e.q k).length) (hj : e.R j) : e.addr c < e.pl j ∨ e.pl j + e.sz j ≤ e.addr c := by
  have h1 := tot_le h k
  have h2 := h.low
  have h3 := h.in_ j hj
  have h4 := h.sep
  rcases addr_in h hc with ⟨a, b⟩ | ⟨a, b, d⟩ | ⟨a, b, d⟩
  · omega
  · omega
  · unfold free at d; omega
theorem np_old {l : List Nat} {i j : Nat} (hi : i ∈ l) : e.np (l ++ [j]) i = e.np l i := by
  unfold np
  congr 2
  induction l with
  | nil => cases hi
  | cons x l ih =>
    by_cases hx : x = i
    · subst hx; simp
    · rw [List.cons_append, List.takeWhile_cons_of_pos (by simpa using hx), List.takeWhile_cons_of_pos (by simpa using hx), ih ((List.mem_cons.1 hi).resolve_left (fun h => hx h.symm))]
theorem np_new {l : List Nat} {j : Nat} (hj : j ∉ l) : e.np (l ++ [j]) j = e.oth + tot e.sz l := by
  unfold np
  congr 2
  induction l with
  | nil => simp
  | cons x l ih =>
    have hx : x ≠ j := fun h => hj (by simp [h])
    rw [List.cons_append, List.takeWhile_cons_of_pos (by simpa using hx), ih (fun h => hj (by simp [h]))]
theorem enc_same {p p' : Nat → Nat} {w : W} (h : ∀ j, w = .ref j → p j = p' j) : enc p w = enc p' w := by
  cases w with
  | raw z => rfl
  | ref j => show 8 * (p j : Int) + 1 = 8 * (p' j : Int) + 1; rw [h j rfl]
theorem inv_raw {k : Nat} {mem0 mem : List Int} (h : e.Ok) (I : e.Inv k mem0 mem) {z : Int} (hz : (e.q k)[k]? = some (.raw z)) : e.Inv (k + 1) mem0 mem ∧ e.o (k + 1) = e.o k ∧ mem.getD (e.addr k) 0 % 8 ≠ 1 := by
  have ho : e.o (k + 1) = e.o k := ord_raw hz
  have hq : e.q (k + 1) = e.q k := by unfold q; rw [ho]
  have hk := I.i4 k _ hz
  rw [if_neg (by omega)] at hk
  refine ⟨⟨I.len, by rw [ho]; exact I.i1, by rw [ho]; exact I.i2, I.i3, ?_, I.i5⟩, ho, by rw [hk]; exact raw_ne h hz⟩
  rw [ho, hq]
  intro c w hc
  rw [I.i4 c w hc]
  by_cases hck : c < k
  · rw [if_pos hck, if_pos (by omega)]
  · rw [if_neg hck]
    by_cases e1 : c = k
    · subst e1
      rw [hz] at hc
      cases hc
      rfl
    · rw [if_neg (by omega)]
theorem set_get (mem : List Int) (i j : Nat) (x : Int) (hi : i < mem.length) : (mem.set i x).getD j 0 = if i = j then x else mem.getD j 0 := by
  rw [List.getD_eq_getElem?_getD, List.getElem?_set]
  by_cases h : i = j
  · rw [if_pos h, if_pos h, if_pos (by omega)]; rfl
  · rw [if_neg h, if_neg h, List.getD_eq_getElem?_getD]
theorem inv_old {k j : Nat} {mem0 mem : List Int} (h : e.Ok) (I : e.Inv k mem0 mem) (hz : (e.q k)[k]? = some (.ref j)) (hj : j ∈ e.o k) : e.Inv (k + 1) mem0 (mem.set (e.addr k) (mem.getD (e.pl j) 0)) ∧ e.o (k + 1) = e.o k ∧ mem.getD (e.addr k) 0 = 8 * (e.pl j : Int) + 1 ∧ e.pl j < e.len ∧ mem.getD (e.pl j) 0 % 8 = 1 := by
  have ho : e.o (k + 1) = e.o k := ord_old hz hj
  have hq : e.q (k + 1) = e.q k := by unfold q; rw [ho]
  have hkl : k < (e.q k).length := (List.getElem?_eq_some_iff.1 hz).1
  have hk := I.i4 k _ hz
  rw [if_neg (by omega)] at hk
  have hrj := ref_reach hz
  have h2 := I.i2 j hj
  have hin := h.in_ j hrj
  have htop := h.top
  have hal := addr_lt h hkl
  have hsz : 1 ≤ e.sz j := by unfold sz; omega
  refine ⟨?_, ho, hk, by omega, by rw [h2]; omega⟩
  have hg : ∀ i, (mem.set (e.addr k) (mem.getD (e.pl j) 0)).getD i 0 = if e.addr k = i then mem.getD (e.pl j) 0 else mem.getD i 0 := fun i => set_get _ _ _ _ (by rw [I.len]; exact hal)
  have hout : ∀ i, e.R i → ∀ t, t < e.sz i → e.addr k ≠ e.pl i + t := fun i hi t ht => by have := addr_out h hkl hi; omega
  refine ⟨by rw [List.length_set]; exact I.len, ?_, ?_, ?_, ?_, ?_⟩
  · rw [ho]
    intro i hi hn
    rw [hg, if_neg (by have := hout i hi 0 (by unfold sz; omega); omega)]
    exact I.i1 i hi hn
  · rw [ho]
    intro i hi
    rw [hg, if_neg (by have := hout i (reach_of hi) 0 (by unfold sz; omega); omega)]
    exact I.i2 i hi
  · intro i hi t w hw
    rw [hg, if_neg (by have := hout i hi (1 + t) (by have := (List.getElem?_eq_some_iff.1 hw).1; unfold sz; omega); omega)]
    exact I.i3 i hi t w hw
  · rw [ho, hq]
    intro c w hc
    rw [hg]
    by_cases e1 : c = k
    · subst e1
      rw [hz] at hc
      cases hc
      rw [if_pos rfl, if_pos (by omega), h2]
      rfl
    · rw [if_neg (fun he => e1 (addr_inj h he).symm), I.i4 c w hc]
      by_cases hck : c < k
      · rw [if_pos hck, if_pos (by omega)]
      · rw [if_neg hck, if_neg (by omega)]
  · intro i h1 h2
    rw [hg, if_neg ?_]
    · exact I.i5 i h1 h2
    · have := h.low'
      rcases addr_in h hkl with ⟨a, b⟩ | ⟨a, b, d⟩ | ⟨a, b, d⟩ <;> omega
theorem copyW_get : ∀ (n p d : Nat) (mem : List Int) (i : Nat), d + n ≤ mem.length → (p + n < d ∨ d + n ≤ p + 1) → (copyW mem p d n).getD i 0 = if d ≤ i ∧ i < d + n then mem.getD (p + 1 + (i - d)) 0 else mem.getD i 0
  | 0, p, d, mem, i, h1, h2 => by rw [copyW, if_neg (by omega)]
  | n + 1, p, d, mem, i, h1, h2 => by
    rw [copyW, copyW_get n (p + 1) (d + 1) _ i (by rw [List.length_set]; omega) (by omega)]
    by_cases hi : d + 1 ≤ i ∧ i < d + 1 + n
    · rw [if_pos hi, if_pos (by omega), set_get _ _ _ _ (by omega), if_neg (by omega)]
      congr 1
      omega
    · rw [if_neg hi, set_get _ _ _ _ (by omega)]
      by_cases he : d = i
      · subst he
        rw [if_pos rfl, if_pos (by omega)]
        congr 1
        omega
      · rw [if_neg he, if_neg (by omega)]
theorem inv_new {k j : Nat} {mem0 mem : List Int} (h : e.Ok) (I : e.Inv k mem0 mem) (hz : (e.q k)[k]? = some (.ref j)) (hj : j ∉ e.o k) : e.Inv (k + 1) mem0 (moved mem (e.addr k) (e.pl j) (e.free k) (e.ws j).length) ∧ e.o (k + 1) = e.o k ++ [j] ∧ mem.getD (e.addr k) 0 = 8 * (e.pl j : Int) + 1 ∧ e.pl j + (e.ws j).length < e.len ∧ mem.getD (e.pl j) 0 % 8 ≠ 1 ∧
    mem.getD (e.pl j) 0 / 64 = (e.ws j).length ∧ e.free k + 1 + (e.ws j).length ≤ e.len ∧ e.free (k + 1) = e.free k + 1 + (e.ws j).length := by
  have ho : e.o (k + 1) = e.o k ++ [j] := ord_new hz hj
  have hq : e.q (k + 1) = e.q k ++ e.wh j := by unfold q; rw [ho, que_snoc]
  have hkl : k < (e.q k).length := (List.getElem?_eq_some_iff.1 hz).1
  have hk := I.i4 k _ hz
  rw [if_neg (by omega)] at hk
  have hrj := ref_reach hz
  have h1 := I.i1 j hrj hj
  have hhd := h.head j hrj
  have hin := h.in_ j hrj
  have htop := h.top
  have hal := addr_lt h hkl
  have hsz : e.sz j = 1 + (e.ws j).length := rfl
  have hfr : e.free (k + 1) = e.free k + 1 + (e.ws j).length := by unfold free; rw [ho, tot_append]; show e.oth + (_ + (e.sz j + 0)) = _; omega
  have hft : e.free (k + 1) ≤ e.oth + e.size := by have := tot_le h (k + 1); unfold free; omega
  have hof : e.oth ≤ e.free k := by unfold free; omega
  have hsep := h.sep
  refine ⟨?_, ho, hk, by omega, by rw [h1]; omega, by rw [h1]; exact hhd.2, by omega, hfr⟩
  have hl1 : (((mem.set (e.free k) (mem.getD (e.pl j) 0)).set (e.pl j) (8 * (e.free k : Int) + 1)).set (e.addr k) (8 * (e.free k : Int) + 1)).length = e.len := by simp only [List.length_set]; exact I.len
  have hak : e.addr k < e.free k ∨ e.free k + 1 + (e.ws j).length ≤ e.addr k := by
    have := h.low'
    rcases addr_in h hkl with ⟨a, b⟩ | ⟨a, b, d⟩ | ⟨a, b, d⟩ <;> omega
  have hap := addr_out h hkl hrj
  -- what stands where
  have hg : ∀ i, (moved mem (e.addr k) (e.pl j) (e.free k) (e.ws j).length).getD i 0 =
      if e.free k + 1 ≤ i ∧ i < e.free k + 1 + (e.ws j).length then mem.getD (e.pl j + 1 + (i - (e.free k + 1))) 0
      else if e.addr k = i then 8 * (e.free k : Int) + 1 else if e.pl j = i then 8 * (e.free k : Int) + 1 else if e.free k = i then e.hd j else mem.getD i 0 := by
    intro i
    unfold moved
    rw [copyW_get _ _ _ _ _ (by rw [hl1]; omega) (by omega)]
    have hh : ∀ x, (((mem.set (e.free k) (mem.getD (e.pl j) 0)).set (e.pl j) (8 * (e.free k : Int) + 1)).set (e.addr k) (8 * (e.free k : Int) + 1)).getD x 0 = if e.addr k = x then 8 * (e.free k : Int) + 1 else if e.pl j = x then 8 * (e.free k : Int) + 1 else if e.free k = x then e.hd j else mem.getD x 0 := by
      intro x
      rw [set_get _ _ _ _ (by simp only [List.length_set]; rw [I.len]; exact hal), set_get _ _ _ _ (by simp only [List.length_set]; rw [I.len]; omega), set_get _ _ _ _ (by rw [I.len]; omega), h1]
    by_cases hi : e.free k + 1 ≤ i ∧ i < e.free k + 1 + (e.ws j).length
    · rw [if_pos hi, if_pos hi, hh, if_neg (by omega), if_neg (by omega), if_neg (by omega)]
    · rw [if_neg hi, if_neg hi, hh]
  -- a place that is not written
  have hkeep : ∀ i, e.addr k ≠ i → e.pl j ≠ i → (i < e.free k ∨ e.free k + 1 + (e.ws j).length ≤ i) → (moved mem (e.addr k) (e.pl j) (e.free k) (e.ws j).length).getD i 0 = mem.getD i 0 := by
    intro i a1 a2 a3
    rw [hg, if_neg (by omega), if_neg a1, if_neg a2, if_neg (by omega)]
  have hth : ∀ i, e.R i → ∀ t, t < e.sz i → (e.pl i + t < e.free k ∨ e.free k + 1 + (e.ws j).length ≤ e.pl i + t) := by
    intro i hi t ht
    have := h.in_ i hi
    omega
  have hout : ∀ i, e.R i → ∀ t, t < e.sz i → e.addr k ≠ e.pl i + t := fun i hi t ht => by have := addr_out h hkl hi; omega
  have hnpl : ∀ i, e.R i → i ≠ j → ∀ t, t < e.sz i → e.pl j ≠ e.pl i + t := fun i hi hne t ht => by have := h.apart i j hi hrj hne; omega
  refine ⟨by unfold moved; rw [copyW_length]; exact hl1, ?_, ?_, ?_, ?_, ?_⟩
  · rw [ho]
    intro i hi hn
    have hnj : i ≠ j := fun he => hn (by rw [he]; simp)
    have hno : i ∉ e.o k := fun he => hn (List.mem_append_left _ he)
    have hs0 : 0 < e.sz i := by unfold sz; omega
    have := hkeep (e.pl i) (by have := hout i hi 0 hs0; omega) (by have := hnpl i hi hnj 0 hs0; omega) (by have := hth i hi 0 hs0; omega)
    rw [this]
    exact I.i1 i hi hno
  · rw [ho]
    intro i hi
    rcases List.mem_append.1 hi with hi | hi
    · have hri := reach_of hi
      have hnj : i ≠ j := fun he => hj (by rw [← he]; exact hi)
      have hs0 : 0 < e.sz i := by unfold sz; omega
      have := hkeep (e.pl i) (by have := hout i hri 0 hs0; omega) (by have := hnpl i hri hnj 0 hs0; omega) (by have := hth i hri 0 hs0; omega)
      rw [this, np_old hi]
      exact I.i2 i hi
    · rw [List.mem_singleton] at hi
      subst hi
      rw [np_new hj, hg, if_neg (by omega), if_neg (by omega), if_pos rfl]
      rfl
  · intro i hi t w hw
    have htl := (List.getElem?_eq_some_iff.1 hw).1
    have hts : 1 + t < e.sz i := by unfold sz; omega
    have := hkeep (e.pl i + 1 + t) (by have := hout i hi (1 + t) hts; omega) (by
      by_cases hij : i = j
      · subst hij; omega
      · have := hnpl i hi hij (1 + t) hts; omega) (by have := hth i hi (1 + t) hts; omega)
    rw [this]
    exact I.i3 i hi t w hw
  · rw [ho, hq]
    intro c w hc
    by_cases hcl : c < (e.q k).length
    · rw [List.getElem?_append_left hcl] at hc
      by_cases e1 : c = k
      · subst e1
        rw [hz] at hc
        cases hc
        rw [hg, if_neg (by omega), if_pos rfl, if_pos (by omega)]
        show 8 * (e.free c : Int) + 1 = 8 * (e.np (e.o c ++ [j]) j : Int) + 1
        rw [np_new hj]
        rfl
      · have hca : e.addr k ≠ e.addr c := fun he => e1 (addr_inj h he).symm
        have hcp := addr_out h hcl hrj
        have hcf : e.addr c < e.free k ∨ e.free k + 1 + (e.ws j).length ≤ e.addr c := by
          have := h.low'
          rcases addr_in h hcl with ⟨a, b⟩ | ⟨a, b, d⟩ | ⟨a, b, d⟩ <;> omega
        rw [hkeep (e.addr c) hca (by omega) hcf, I.i4 c w hc]
        by_cases hck : c < k
        · rw [if_pos hck, if_pos (by omega)]
          refine enc_same fun i hi => ?_
          subst hi
          exact (np_old (ord_done k c i hck hc)).symm
        · rw [if_neg hck, if_neg (by omega)]
    · rw [List.getElem?_append_right (by omega)] at hc
      have hql := q_len h k
      rw [if_neg (by omega)]
      have had : e.addr c = e.free k + (c - (e.q k).length) := by
        unfold addr free
        rw [if_neg (by omega), if_neg (by omega)]
        omega
      generalize hT : c - (e.q k).length = T at hc had
      rw [had]
      cases T with
      | zero =>
        have hw : w = .raw (e.hd j) := by unfold wh at hc; simpa using hc.symm
        subst hw
        rw [Nat.add_zero, hg, if_neg (by omega), if_neg (by omega), if_neg (by omega), if_pos rfl]
        rfl
      | succ t =>
        have hw : (e.ws j)[t]? = some w := by unfold wh at hc; simpa using hc
        have htl := (List.getElem?_eq_some_iff.1 hw).1
        rw [hg, if_pos (by omega), show e.pl j + 1 + (e.free k + (t + 1) - (e.free k + 1)) = e.pl j + 1 + t by omega]
        exact I.i3 j hrj t w hw
  · intro i a1 a2
    have hlow := h.low
    have hlow' := h.low'
    rw [hkeep i ?_ (by omega) (by omega)]
    · exact I.i5 i a1 a2
    · rcases addr_in h hkl with ⟨a, b⟩ | ⟨a, b, d⟩ | ⟨a, b, d⟩ <;> omega
end E
end Gc
end Go.Proofs.Ytaldcgfhlflcpaa
namespace Go.Proofs.Ytaldcgfhlflcpaa
open Go.RowKit
set_option linter.unusedVariables false
set_option linter.unusedSimpArgs false
set_option maxRecDepth 100000
namespace Gc
open Rs
def Lft (r r' : Nat → Int) : Prop := ∀ i, i ≠ 1 → i ≠ 3 → i ≠ 6 → i ≠ 7 → i ≠ 8 → i ≠ 9 → i ≠ 10 → r' i = r i
section
variable {code : List Int} {b : Nat} {e : E}
theorem step_any (H : GcAt code b) (hb : b ≤ 1048576) (h : e.Ok) {k : Nat} {mem0 mem : List Int} (I : e.Inv k mem0 mem) (hk : k < (e.q k).length) (r : Nat → Int) (st : Int) (En : Nat) (h0 : r 0 = 0) (h1 : r 1 = e.free k) (h3 : r 3 = e.addr k) (h4 : r 4 = En) (hlt : e.addr k < En) :
    ∃ n r' mem', Runs code ⟨b + 79, r, mem, st⟩ n ⟨b + 79, r', mem', st + n⟩ ∧ e.Inv (k + 1) mem0 mem' ∧ r' 1 = e.free (k + 1) ∧ r' 3 = ((e.addr k + 1 : Nat) : Int) ∧ Lft r r' ∧ n + 7 * e.free k ≤ 12 + 7 * e.free (k + 1) := by
  have hA : e.addr k < mem.length := by rw [I.len]; exact E.addr_lt h hk
  have hl : mem.length ≤ 1048576 := by rw [I.len]; exact h.small
  cases hz : (e.q k)[k]? with
  | none => have := List.getElem?_eq_none_iff.1 hz; omega
  | some w =>
    cases w with
    | raw z =>
      obtain ⟨I', ho, hw⟩ := E.inv_raw h I hz
      obtain ⟨r', hr, hf⟩ := fwd_raw H r mem st (e.addr k) En (e.free k) h1 h3 h4 hlt hA hl hw
      have hff : e.free (k + 1) = e.free k := by unfold E.free; rw [ho]
      exact ⟨7, r', mem, hr, I', by rw [hff]; exact hf.r1, hf.r3, hf.o, by omega⟩
    | ref j =>
      by_cases hj : j ∈ e.o k
      · obtain ⟨I', ho, hw, hp, hh⟩ := E.inv_old h I hz hj
        obtain ⟨r', hr, hf⟩ := fwd_old H r mem st (e.addr k) En (e.free k) (e.pl j) h1 h3 h4 hlt hA hl hw (by rw [I.len]; exact hp) hh
        have hff : e.free (k + 1) = e.free k := by unfold E.free; rw [ho]
        exact ⟨12, r', _, hr, I', by rw [hff]; exact hf.r1, hf.r3, hf.o, by omega⟩
      · obtain ⟨I', ho, hw, hp, hh, hn, hfr, hff⟩ := E.inv_new h I hz hj
        obtain ⟨r', hr, hf⟩ := fwd_new H hb r mem st (e.addr k) En (e.free k) (e.pl j) (e.ws j).length h0 h1 h3 h4 hlt hA hl hw (by rw [I.len]; exact hp) hh hn (by rw [I.len]; exact hfr)
        exact ⟨_, r', _, hr, I', by rw [hff]; exact hf.r1, hf.r3, hf.o, by omega⟩
theorem q_mono (k d : Nat) : (e.q k).length ≤ (e.q (k + d)).length := by
  induction d with
  | zero => exact Nat.le_refl _
  | succ d ih => exact Nat.le_trans ih (que_len_step (k + d))
theorem region_run (H : GcAt code b) (hb : b ≤ 1048576) (h : e.Ok) : ∀ (cnt k A : Nat) (mem0 mem : List Int) (r : Nat → Int) (st : Int), e.Inv k mem0 mem → k + cnt ≤ (e.q k).length → (∀ i, i < cnt → e.addr (k + i) = A + i) → r 0 = 0 → r 1 = e.free k → r 3 = A → r 4 = ((A + cnt : Nat) : Int) →
    ∃ n r' mem', Runs code ⟨b + 79, r, mem, st⟩ n ⟨b + 79, r', mem', st + n⟩ ∧ e.Inv (k + cnt) mem0 mem' ∧ r' 1 = e.free (k + cnt) ∧ r' 3 = ((A + cnt : Nat) : Int) ∧ Lft r r' ∧ n + 7 * e.free k ≤ 12 * cnt + 7 * e.free (k + cnt)
  | 0, k, A, mem0, mem, r, st, I, hk, ha, h0, h1, h3, h4 => ⟨0, r, mem, by rw [show st + ((0 : Nat) : Int) = st by omega]; exact Runs.refl _ _, I, h1, h3, fun _ _ _ _ _ _ _ _ => rfl, by simp⟩
  | cnt + 1, k, A, mem0, mem, r, st, I, hk, ha, h0, h1, h3, h4 => by
    have hak : e.addr k = A := ha 0 (by omega)
    obtain ⟨n, r1, m1, s1, I1, f1, f3, fo, fn⟩ := step_any H hb h I (by omega) r st (A + (cnt + 1)) h0 h1 (by rw [hak]; exact h3) h4 (by omega)
    rw [hak] at f3
    have hq := q_mono (e := e) k 1
    obtain ⟨n2, r2, m2, s2, I2, g1, g3, go', gn⟩ := region_run H hb h cnt (k + 1) (A + 1) mem0 m1 r1 (st + n) I1 (by omega) (fun i hi => by rw [show k + 1 + i = k + (i + 1) by omega, ha (i + 1) (by omega)]; omega) (by rw [fo 0 (by decide) (by decide) (by decide) (by decide) (by decide) (by decide) (by decide)]; exact h0) f1 f3 (by rw [fo 4 (by decide) (by decide) (by decide) (by decide) (by decide) (by decide) (by decide), h4]; omega)
    have e1 : k + 1 + cnt = k + (cnt + 1) := by omega
    have e2 : A + 1 + cnt = A + (cnt + 1) := by omega
    rw [e1] at I2 g1 gn
    rw [e2] at g3
    refine ⟨n + n2, r2, m2, ?_, I2, g1, g3, fun i a1 a3 a6 a7 a8 a9 a10 => by rw [go' i a1 a3 a6 a7 a8 a9 a10, fo i a1 a3 a6 a7 a8 a9 a10], by omega⟩
    have := s1.trans s2
    rw [show st + n + n2 = st + ((n + n2 : Nat) : Int) by omega] at this
    exact this
theorem region_call (H : GcAt code b) (hb : b ≤ 1048576) (h : e.Ok) (cnt k A ret : Nat) (mem0 mem : List Int) (r : Nat → Int) (st : Int) (I : e.Inv k mem0 mem) (hk : k + cnt ≤ (e.q k).length) (ha : ∀ i, i < cnt → e.addr (k + i) = A + i) (h0 : r 0 = 0) (h1 : r 1 = e.free k) (h3 : r 3 = A) (h4 : r 4 = ((A + cnt : Nat) : Int)) (h5 : r 5 = ret) :
    ∃ n r' mem', Runs code ⟨b + 79, r, mem, st⟩ n ⟨ret, r', mem', st + n⟩ ∧ e.Inv (k + cnt) mem0 mem' ∧ r' 1 = e.free (k + cnt) ∧ Lft r r' ∧ n + 7 * e.free k ≤ 2 + 12 * cnt + 7 * e.free (k + cnt) := by
  obtain ⟨n, r1, m1, s1, I1, f1, f3, fo, fn⟩ := region_run H hb h cnt k A mem0 mem r st I hk ha h0 h1 h3 h4
  have e4 : r1 4 = ((A + cnt : Nat) : Int) := by rw [fo 4 (by decide) (by decide) (by decide) (by decide) (by decide) (by decide) (by decide), h4]
  have e5 : r1 5 = ret := by rw [fo 5 (by decide) (by decide) (by decide) (by decide) (by decide) (by decide) (by decide), h5]
  have s2 := r_taken (v := ⟨b + 79, r1, m1, st + n⟩) 3 4 (b + 105) (gc_has H 79 rfl) rfl rfl (by decide) (by decide) (by decide) (by show decide (r1 4 ≤ r1 3) = true; rw [f3, e4]; exact decide_eq_true (Int.le_refl _)) (by show ((b + 79 : Nat) : Int) + 26 = _; omega)
  have s3 := r_jalr (v := ⟨b + 105, r1, m1, st + n + 1⟩) 5 ret (gc_has H 105 rfl) rfl (by decide) e5
  have hs := (s1.trans (s2.trans s3)).cast (show n + (1 + 1) = n + 2 from rfl)
  dsimp only at hs
  rw [show st + (n : Int) + 1 + 1 = st + ((n + 2 : Nat) : Int) by omega] at hs
  exact ⟨n + 2, r1, m1, hs, I1, f1, fo, by omega⟩
theorem scan_run (H : GcAt code b) (hb : b ≤ 1048576) (h : e.Ok) : ∀ (f k : Nat) (mem0 mem : List Int) (r : Nat → Int) (st : Int), 27 + e.s + e.size < k + f → e.Inv k mem0 mem → 27 + e.s ≤ k → k ≤ (e.q k).length → r 0 = 0 → r 1 = e.free k → r 2 = ((e.oth + (k - (27 + e.s)) : Nat) : Int) →
    ∃ n r' mem' k', Runs code ⟨b + 33, r, mem, st⟩ n ⟨b + 39, r', mem', st + n⟩ ∧ e.Inv k' mem0 mem' ∧ (e.q k').length = k' ∧ r' 1 = e.free k' ∧ (∀ i, 10 < i → r' i = r i) ∧ r' 0 = 0 ∧ n + 7 * e.free k + 20 * k ≤ 1 + 7 * e.free k' + 20 * k'
  | 0, k, mem0, mem, r, st, hf, I, hk, hkq, h0, h1, h2 => by
    have := E.q_len h k
    have := E.tot_le h k
    omega
  | f + 1, k, mem0, mem, r, st, hf, I, hk, hkq, h0, h1, h2 => by
    have hql := E.q_len h k
    have htl := E.tot_le h k
    have hfr : e.free k = e.oth + tot e.sz (e.o k) := rfl
    have htop := h.top
    have hsm := h.small
    by_cases hd : (e.q k).length = k
    · have s1 := r_taken (v := ⟨b + 33, r, mem, st⟩) 2 1 (b + 39) (gc_has H 33 rfl) rfl rfl (by decide) (by decide) (by decide) (by show decide (r 1 ≤ r 2) = true; rw [h1, h2]; exact decide_eq_true (by omega)) (by show ((b + 33 : Nat) : Int) + 6 = _; omega)
      exact ⟨1, r, mem, k, s1, I, hd, h1, fun _ _ => rfl, h0, by omega⟩
    · have s1 := r_not (v := ⟨b + 33, r, mem, st⟩) 2 1 (gc_has H 33 rfl) rfl rfl (by decide) (by decide) (by decide) (by show decide (r 1 ≤ r 2) = false; rw [h1, h2]; exact decide_eq_false (by omega))
      have s2 := r_with (v := ⟨b + 34, r, mem, st + 1⟩) 3 2 ((e.oth + (k - (27 + e.s)) : Nat) : Int) (gc_has H 34 rfl) rfl rfl (by decide) (by decide) (by decide) (by decide) (addi_eq (by show r 2 + 0 = _; rw [h2, Int.add_zero]) (by omega) (by omega))
      generalize hr2 : upd r 3 ((e.oth + (k - (27 + e.s)) : Nat) : Int) = r2 at s2
      have b1 : r2 1 = e.free k := by rw [← hr2]; exact h1
      have s3 := r_with (v := ⟨b + 35, r2, mem, st + 1 + 1⟩) 4 1 ((e.free k : Nat) : Int) (gc_has H 35 rfl) rfl rfl (by decide) (by decide) (by decide) (by decide) (addi_eq (by show r2 1 + 0 = _; rw [b1, Int.add_zero]) (by omega) (by omega))
      generalize hr3 : upd r2 4 ((e.free k : Nat) : Int) = r3 at s3
      have c1 : r3 1 = e.free k := by rw [← hr3]; exact b1
      have s4 := r_with (v := ⟨b + 36, r3, mem, st + 1 + 1 + 1⟩) 2 1 ((e.free k : Nat) : Int) (gc_has H 36 rfl) rfl rfl (by decide) (by decide) (by decide) (by decide) (addi_eq (by show r3 1 + 0 = _; rw [c1, Int.add_zero]) (by omega) (by omega))
      have s5 := r_jal (v := ⟨b + 37, upd r3 2 ((e.free k : Nat) : Int), mem, st + 1 + 1 + 1 + 1⟩) 5 (b + 79) (gc_has H 37 rfl) rfl (by decide) (by show ((b + 37 : Nat) : Int) + 42 = _; omega)
      dsimp only at s5
      generalize hr5 : upd (upd r3 2 ((e.free k : Nat) : Int)) 5 ((b + 37 + 1 : Nat) : Int) = r5 at s5
      have d0 : r5 0 = 0 := by rw [← hr5, ← hr3, ← hr2]; exact h0
      have d1 : r5 1 = e.free k := by rw [← hr5]; exact c1
      have d2 : r5 2 = e.free k := by rw [← hr5]; rfl
      have d3 : r5 3 = ((e.oth + (k - (27 + e.s)) : Nat) : Int) := by rw [← hr5, ← hr3, ← hr2]; rfl
      have d4 : r5 4 = ((e.oth + (k - (27 + e.s)) + ((e.q k).length - k) : Nat) : Int) := by
        have : r5 4 = e.free k := by rw [← hr5, ← hr3]; rfl
        rw [this]; omega
      have d5 : r5 5 = ((b + 38 : Nat) : Int) := by rw [← hr5]; rfl
      have do' : ∀ i, 10 < i → r5 i = r i := fun i hi => by rw [← hr5, ← hr3, ← hr2, upd_ne _ _ _ (by omega), upd_ne _ _ _ (by omega), upd_ne _ _ _ (by omega), upd_ne _ _ _ (by omega)]
      obtain ⟨n, r6, m6, s6, I6, f1, fo, fn⟩ := region_call H hb h ((e.q k).length - k) k (e.oth + (k - (27 + e.s))) (b + 38) mem0 mem r5 (st + 1 + 1 + 1 + 1 + 1) I (by omega) (fun i hi => by
        unfold E.addr
        rw [if_neg (by omega), if_neg (by omega)]
        omega) d0 d1 d3 d4 d5
      have ek : k + ((e.q k).length - k) = (e.q k).length := by omega
      rw [ek] at I6 f1 fn
      have s7 := r_jmp (v := ⟨b + 38, r6, m6, st + 1 + 1 + 1 + 1 + 1 + n⟩) (b + 33) (gc_has H 38 rfl) (by show ((b + 38 : Nat) : Int) + -5 = _; omega)
      have e0 : r6 0 = 0 := by rw [fo 0 (by decide) (by decide) (by decide) (by decide) (by decide) (by decide) (by decide)]; exact d0
      have e2 : r6 2 = ((e.oth + ((e.q k).length - (27 + e.s)) : Nat) : Int) := by
        rw [fo 2 (by decide) (by decide) (by decide) (by decide) (by decide) (by decide) (by decide), d2]; omega
      have hmo := q_mono (e := e) k ((e.q k).length - k)
      rw [ek] at hmo
      obtain ⟨n2, r8, m8, k8, s8, I8, g8, g1, go', g0, gn⟩ := scan_run H hb h f (e.q k).length mem0 m6 r6 (st + 1 + 1 + 1 + 1 + 1 + n + 1) (by omega) I6 (by omega) hmo e0 f1 e2
      have hs := (s1.trans (s2.trans (s3.trans (s4.trans (s5.trans (s6.trans (s7.trans s8))))))).cast (show 1 + (1 + (1 + (1 + (1 + (n + (1 + n2)))))) = 6 + n + n2 by omega)
      rw [show st + 1 + 1 + 1 + 1 + 1 + (n : Int) + 1 + n2 = st + ((6 + n + n2 : Nat) : Int) by omega] at hs
      exact ⟨6 + n + n2, r8, m8, k8, hs, I8, g8, g1, fun i hi => by rw [go' i hi, fo i (by omega) (by omega) (by omega) (by omega) (by omega) (by omega) (by omega), do' i hi], g0, by omega⟩
def memS (r : Nat → Int) (mem : List Int) : Nat → List Int
  | 0 => mem
  | j + 1 => (memS r mem j).set j (r (j + 1))
theorem memS_length (r : Nat → Int) (mem : List Int) : ∀ j, (memS r mem j).length = mem.length
  | 0 => rfl
  | j + 1 => by rw [memS, List.length_set, memS_length r mem j]
theorem memS_get (r : Nat → Int) (mem : List Int) (i : Nat) : ∀ j, j ≤ mem.length → (memS r mem j).getD i 0 = if i < j then r (i + 1) else mem.getD i 0
  | 0, _ => by rw [if_neg (by omega)]; rfl
  | j + 1, h => by
    rw [memS, E.set_get _ _ _ _ (by rw [memS_length]; omega), memS_get r mem i j (by omega)]
    by_cases hi : j = i
    · subst hi; rw [if_pos rfl, if_pos (by omega)]
    · rw [if_neg hi]
      by_cases h2 : i < j
      · rw [if_pos h2, if_pos (by omega)]
      · rw [if_neg h2, if_neg (by omega)]
theorem tab_store : ∀ j : Fin 25, gcT[(j : Nat)]? = some (23, ((j : Nat) : Int) + 1, 0, 0, ((j : Nat) : Int)) := by decide
theorem tab_load : ∀ j : Fin 25, gcT[51 + (j : Nat)]? = some (22, ((j : Nat) : Int) + 1, 0, 0, ((j : Nat) : Int)) := by decide
theorem store_run (H : GcAt code b) (r : Nat → Int) (mem : List Int) (st : Int) (h0 : r 0 = 0) (hl : 25 ≤ mem.length) (hs : mem.length ≤ 1048576) : ∀ j, j ≤ 25 → Runs code ⟨b, r, mem, st⟩ j ⟨b + j, r, memS r mem j, st + j⟩
  | 0, _ => by rw [show st + ((0 : Nat) : Int) = st by omega]; exact Runs.refl _ _
  | j + 1, h => by
    have s1 := store_run H r mem st h0 hl hs j (by omega)
    have s2 := r_store (v := ⟨b + j, r, memS r mem j, st + j⟩) (j + 1) 0 j (gc_has H j (tab_store ⟨j, by omega⟩)) (by show (j : Int) + 1 = _; omega) rfl (by omega) (by decide) (by show r 0 + (j : Int) = _; rw [h0]; omega) (by show j < (memS r mem j).length; rw [memS_length]; omega) (by show (memS r mem j).length ≤ _; rw [memS_length]; exact hs)
    have := s1.trans s2
    dsimp only at this
    rw [show st + (j : Int) + 1 = st + ((j + 1 : Nat) : Int) by omega] at this
    exact this
theorem load_run (H : GcAt code b) (r : Nat → Int) (mem : List Int) (st : Int) (h0 : r 0 = 0) (hl : 25 ≤ mem.length) (hs : mem.length ≤ 1048576) : ∀ j, j ≤ 25 → ∃ r', Runs code ⟨b + 51, r, mem, st⟩ j ⟨b + 51 + j, r', mem, st + j⟩ ∧ ∀ i, r' i = if 1 ≤ i ∧ i ≤ j then mem.getD (i - 1) 0 else r i
  | 0, _ => ⟨r, by rw [show st + ((0 : Nat) : Int) = st by omega]; exact Runs.refl _ _, fun i => by rw [if_neg (by omega)]⟩
  | j + 1, h => by
    obtain ⟨r1, s1, f1⟩ := load_run H r mem st h0 hl hs j (by omega)
    have h10 : r1 0 = 0 := by rw [f1, if_neg (by omega)]; exact h0
    have hh := gc_has H (51 + j) (tab_load ⟨j, by omega⟩)
    rw [← Nat.add_assoc] at hh
    have s2 := r_load (v := ⟨b + 51 + j, r1, mem, st + j⟩) (j + 1) 0 j hh (by show (j : Int) + 1 = _; omega) rfl (by omega) (by decide) (by show r1 0 + (j : Int) = _; rw [h10]; omega) (by show j < mem.length; omega) hs
    have := s1.trans s2
    dsimp only at this
    rw [show st + (j : Int) + 1 = st + ((j + 1 : Nat) : Int) by omega] at this
    refine ⟨_, this, fun i => ?_⟩
    unfold upd
    by_cases hi : i = j + 1
    · subst hi; rw [if_pos rfl, if_pos (by omega)]; rfl
    · rw [if_neg hi, f1]
      by_cases h2 : 1 ≤ i ∧ i ≤ j
      · rw [if_pos h2, if_pos (by omega)]
      · rw [if_neg h2, if_neg (by omega)]
end
end Gc
end Go.Proofs.Ytaldcgfhlflcpaa
