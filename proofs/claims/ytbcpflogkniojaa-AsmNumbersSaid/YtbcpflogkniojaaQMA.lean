/- Small laws on a row of the call's own. -/
import Derived.Test.YtbcpflogkniojaaRows
import Derived.WalkKit
import Derived.Lib.Hide
import Derived.Deep.Draws
import Derived.Test.YtbcpflogkniojaaQFrame
import Derived.WalkSpells
import Derived.Outline
import Derived.BigQuiet
import Derived.Laws.BitsAllLaws
import Derived.Deep.Slices
import Derived.Deep.Fields
import Derived.ChangeSame
import Derived.WideShapes
import Derived.Deep.LoopGhost
import Derived.Laws.MakeOwn
import Derived.Laws.IdiomStrings
import Derived.Deep.MidRow
import Derived.Deep.Onto
namespace Go.Proofs.Ytbcpflogkniojaa
open Go.RowKit

theorem getElem?_getD {α : Type} (l : List α) (i : Nat) (d : α) (h : i < l.length) : l[i]? = some (l.getD i d) := by
  rw [List.getD_eq_getElem?_getD, List.getElem?_eq_getElem h]; rfl

/-- The cells of an owned row. -/
theorem own_cells {w : World} {B e size n cap g : Nat} {xs : List Value} (h : w.ownsRow B e size (.slice (some ⟨g, 0, none⟩) n cap) n xs) :
    ∀ j, j < xs.length → w.cell? ⟨g, j, none⟩ = some (xs.getD j undef) := by
  intro j hj
  have := h.cells (g := g) rfl j (xs.getD j undef) (getElem?_getD xs j undef hj)
  rw [← this]
  unfold Addr.add
  split
  · rename_i h0; subst h0; rfl
  · simp

theorem own_ints {w : World} {B e n cap g : Nat} {zs : List Int} (h : w.ownsRow B e 1 (.slice (some ⟨g, 0, none⟩) n cap) n (zs.map (Value.int .i64))) :
    ∀ j, j < zs.length → w.cell? ⟨g, j, none⟩ = some (.int .i64 (zs.getD j 0)) := by
  intro j hj
  have := own_cells h j (by simpa using hj)
  rw [this]
  congr 1
  rw [List.getD_eq_getElem?_getD, List.getElem?_map, List.getElem?_eq_getElem hj, List.getD_eq_getElem?_getD, List.getElem?_eq_getElem hj]
  rfl

theorem own_shape {w : World} {B e size n : Nat} {v : Value} {xs : List Value} (h : w.ownsRow B e size v n xs) :
    (v = .slice none 0 0 ∧ n = 0 ∧ xs = []) ∨ ∃ g cap, v = .slice (some ⟨g, 0, none⟩) n cap ∧ B ≤ g ∧ g < w.heap.size ∧ n ≤ cap ∧ cap ≤ maxLen := by
  obtain ⟨hl, ⟨rfl, rfl⟩ | ⟨g, cap, cur, rfl, hb, hg, hn, hc, _⟩⟩ := h
  · refine .inl ⟨rfl, rfl, ?_⟩
    rw [Nat.zero_mul] at hl
    exact List.eq_nil_of_length_eq_zero hl
  · exact .inr ⟨g, cap, rfl, hb, (Array.getElem?_eq_some_iff.1 hg).1, hn, hc⟩

theorem own_cap {w : World} {B e size n cap g : Nat} {xs : List Value} (h : w.ownsRow B e size (.slice (some ⟨g, 0, none⟩) n cap) n xs) :
    B ≤ g ∧ g < w.heap.size ∧ n ≤ cap ∧ cap ≤ maxLen := by
  rcases own_shape h with ⟨h, _⟩ | ⟨g', cap', h, r⟩
  · cases h
  · cases h; exact r

theorem heap_new {w : World} {o : Obj} {b : Nat} (h : b = w.heap.size) : (w.alloc o).heap[b]? = some o := h ▸ heap_alloc_new w o
/-- The cells of a block that has just been made. -/
theorem new_cells {b : Nat} {cs : List Value} {t : TypeId} (w' : World) (hb : w'.heap[b]? = some (.cells cs.toArray t (0, 0))) : ∀ j u, cs[j]? = some u → w'.cell? ((⟨b, 0, none⟩ : Addr).add j) = some u := by
  intro j u hu
  have hadd : (⟨b, 0, none⟩ : Addr).add j = ⟨b, j, none⟩ := by unfold Addr.add; split <;> simp_all
  rw [hadd, cell_of_row w' b j _ t (0, 0) hb]
  simpa using hu
theorem own_ne {w : World} {B e size n : Nat} {v : Value} {xs : List Value} (h : w.ownsRow B e size v n xs) : ∀ j, j < B → some j ≠ v.ownBlock :=
  fun j hj e => by have := (h.lt j e.symm).1; omega

theorem own_drewN {w : World} {B e size n : Nat} {v : Value} {xs : List Value} (h : w.ownsRow B e size v n xs) (k : Nat) : (w.drewN k).ownsRow B e size v n xs := h

end Go.Proofs.Ytbcpflogkniojaa
/- Slices that came in, as lists of cells. -/
namespace Go.Proofs.Ytbcpflogkniojaa
open Go.RowKit
set_option linter.unusedVariables false
set_option linter.unusedSimpArgs false
/-- A slice of one-cell elements that reads as a list; nil or not. -/
def Sl (w : World) (v : Value) (xs : List Value) : Prop :=
  ∃ a cap, v = .slice a xs.length cap ∧ ((a = none ∧ cap = 0 ∧ xs = []) ∨ ∃ ad, a = some ad ∧ ∀ j u, xs[j]? = some u → w.cell? (ad.add j) = some u)
theorem Sl.at {w : World} {a : Option Addr} {n cap : Nat} {xs : List Value} (h : Sl w (.slice a n cap) xs) (hne : xs ≠ []) :
    ∃ b off, a = some ⟨b, off, none⟩ ∧ b < w.heap.size ∧ ∀ j, j < xs.length → w.cell? ⟨b, off + j, none⟩ = some (xs.getD j undef) := by
  obtain ⟨a', cap', hv, h | ⟨ad, h1, h2⟩⟩ := h
  · exact absurd h.2.2 hne
  · cases hv
    subst h1
    have hpos : 0 < xs.length := List.length_pos_iff.2 hne
    have h0 := h2 0 _ (getElem?_getD xs 0 undef hpos)
    obtain ⟨b, off, spot⟩ := ad
    have hspot : spot = none := by simpa [Addr.add] using World.cell?_spot h0
    subst hspot
    refine ⟨b, off, rfl, ?_, fun j hj => ?_⟩
    · have := World.block_lt_of_cell? w _ h0
      simpa [Addr.add] using this
    · have := h2 j _ (getElem?_getD xs j undef hj)
      rwa [Go.WideShapes.add_plain] at this
theorem Sl.len {w : World} {v : Value} {xs : List Value} (h : Sl w v xs) : ∃ a cap, v = .slice a xs.length cap := by
  obtain ⟨a, cap, h, _⟩ := h
  exact ⟨a, cap, h⟩
theorem Sl.of {w w' : World} {v : Value} {xs : List Value} (h : Sl w v xs) (hc : ∀ p, p.block < w.heap.size → w'.cell? p = w.cell? p) : Sl w' v xs := by
  obtain ⟨a, cap, hv, h | ⟨ad, h1, h2⟩⟩ := h
  · exact ⟨a, cap, hv, .inl h⟩
  · exact ⟨a, cap, hv, .inr ⟨ad, h1, fun j u hu => (hc _ (World.block_lt_of_cell? w _ (h2 j u hu))).trans (h2 j u hu)⟩⟩
theorem Sl.below {w w' : World} {v : Value} {xs : List Value} {N : Nat} (h : Sl w v xs) (hb : Below N w w') (hN : w.heap.size ≤ N) : Sl w' v xs := h.of fun p hp => hb.cell (p := p) (by omega)
theorem Sl.drewN {w : World} {v : Value} {xs : List Value} (h : Sl w v xs) (n : Nat) : Sl (w.drewN n) v xs := h
theorem Sl.own {w : World} {B e n : Nat} {v : Value} {xs : List Value} (h : w.ownsRow B e 1 v n xs) : Sl w v xs := by
  rcases own_shape h with ⟨rfl, _, rfl⟩ | ⟨g, cap, rfl, _⟩
  · exact ⟨none, 0, rfl, .inl ⟨rfl, rfl, rfl⟩⟩
  · have hl := h.1
    rw [Nat.mul_one] at hl
    exact ⟨_, cap, by rw [hl], .inr ⟨_, rfl, h.cells rfl⟩⟩
end Go.Proofs.Ytbcpflogkniojaa
/- The small functions of package risc. -/
namespace Go.Proofs.Ytbcpflogkniojaa
open Go.RowKit
set_option linter.unusedSimpArgs false
set_option linter.unusedVariables false
namespace Rs
def form (op : Int) : Int :=
  if op = 0 ∨ op = 30 ∨ op = 31 then 0 else if 1 ≤ op ∧ op ≤ 14 then 1 else if (15 ≤ op ∧ op ≤ 19) ∨ op = 22 ∨ op = 23 then 2
  else if op = 20 ∨ op = 21 then 3 else if 24 ≤ op ∧ op ≤ 27 then 4 else if op = 28 then 5 else if op = 29 then 6 else 7
def least (op : Int) : Int :=
  if op = 16 ∨ op = 17 ∨ op = 21 ∨ op = 18 ∨ op = 19 then 0 else if form op = 2 ∨ form op = 3 then -32768 else if form op = 4 then -512 else if form op = 5 then -1048576 else 0
def most (op : Int) : Int :=
  if op = 16 ∨ op = 17 ∨ op = 21 then 65535 else if op = 18 ∨ op = 19 then 63 else if form op = 2 ∨ form op = 3 then 32767 else if form op = 4 then 511 else if form op = 5 then 1048575 else 0
theorem op_cases (op : Int) : (op < 0 ∨ 31 < op) ∨ ∃ k : Nat, k < 32 ∧ op = (k : Int) := by
  by_cases h : op < 0 ∨ 31 < op
  · exact .inl h
  · exact .inr ⟨op.toNat, by omega, by omega⟩
end Rs

set_option maxHeartbeats 1000000 in
theorem form_any (op : Int) (w : World) : Calls Try.prog 41 #[.int .i64 op] w fun e w' => e = .returned (.int .i64 (Rs.form op)) ∧ w = w' := by
  go_enter Try.func41, Try.ntmps41
  go_wp2
  all_goals (go_ret; refine ⟨?_, rfl⟩; congr 1; simp [Rs.form] at *; try omega)

set_option maxHeartbeats 1000000 in
theorem ends_any (op : Int) (w : World) : Calls Try.prog 42 #[.int .i64 op] w fun e w' => e = .returned (.tuple #[.int .i64 (Rs.least op), .int .i64 (Rs.most op)]) ∧ w = w' := by
  go_enter Try.func42, Try.ntmps42
  go_wp2_with (go_at_call 41; refine (form_any _ _).mono ?_; rintro e w' ⟨rfl, hw⟩; obtain rfl := hw)
  all_goals (go_ret2; refine ⟨?_, rfl⟩; simp at *; unfold Rs.least Rs.most; constructor <;> (repeat' split) <;> omega)

def Rs.isReg (n : Int) : Bool := decide (0 ≤ n ∧ n ≤ 31)
theorem isReg_any (n : Int) (w : World) : Calls Try.prog 43 #[.int .i64 n] w fun e w' => e = .returned (.bool (Rs.isReg n)) ∧ w = w' := by
  rcases (by omega : n < 0 ∨ (0 ≤ n ∧ n < 32) ∨ (0 ≤ n ∧ 32 ≤ n)) with h | ⟨h, h2⟩ | ⟨h, h2⟩
  · have hr : Hid (Rs.isReg n = false) := decide_eq_false (by omega)
    go_enter Try.func43, Try.ntmps43
    go_wp2
    go_ret
    rw [hr.out]; exact ⟨rfl, rfl⟩
  · have hr : Hid (Rs.isReg n = true) := decide_eq_true (by omega)
    go_enter Try.func43, Try.ntmps43
    go_wp2
    go_ret
    rw [hr.out]; exact ⟨by simp [h2], rfl⟩
  · have hr : Hid (Rs.isReg n = false) := decide_eq_false (by omega)
    go_enter Try.func43, Try.ntmps43
    go_wp2
    go_ret
    rw [hr.out]; exact ⟨by simp; omega, rfl⟩

def Rs.signed (x : Int) (b : Nat) : Int := if 2 ^ (b - 1) ≤ x % 2 ^ b then x % 2 ^ b - 2 ^ b else x % 2 ^ b
end Go.Proofs.Ytbcpflogkniojaa
/- Words of 32 bits, put together and taken apart. -/
namespace Go.Proofs.Ytbcpflogkniojaa
open Go.RowKit
set_option linter.unusedSimpArgs false
set_option linter.unusedVariables false
namespace Rs
theorem or32 (x y : Int) (k : Nat) (hx : 0 ≤ x) (hk : x % 2 ^ k = 0) (hy : 0 ≤ y) (hyk : y < 2 ^ k) (h32 : x + y < 4294967296) : bits .or .u32 x y = x + y := by
  rw [u32_or x y hx (by omega) hy (by omega)]
  obtain ⟨a, rfl⟩ : ∃ a : Nat, x = (a : Int) := ⟨x.toNat, by omega⟩
  obtain ⟨b, rfl⟩ : ∃ b : Nat, y = (b : Int) := ⟨y.toNat, by omega⟩
  simp only [Int.toNat_natCast]
  have hb : b < 2 ^ k := by exact_mod_cast hyk
  have ha : a % 2 ^ k = 0 := by exact_mod_cast hk
  obtain ⟨q, hq⟩ : ∃ q, a = 2 ^ k * q := ⟨a / 2 ^ k, by have := Nat.div_add_mod a (2 ^ k); omega⟩
  rw [hq, ← Nat.two_pow_add_eq_or_of_lt hb]
  push_cast
  rfl
theorem or32_0 (x : Int) (hx : 0 ≤ x) (h : x < 4294967296) : bits .or .u32 x 0 = x := by
  rw [u32_or x 0 hx h (by omega) (by omega)]
  simp
  omega
theorem and32 (x : Int) (k : Nat) (hk : k ≤ 31) (hx : 0 ≤ x) (h : x < 4294967296) : bits .and .u32 x (2 ^ k - 1) = x % 2 ^ k := by
  have h2 : (2 : Nat) ^ k ≤ 2 ^ 31 := Nat.pow_le_pow_right (by omega) hk
  have h3 : ((2 : Int) ^ k - 1) = ((2 ^ k - 1 : Nat) : Int) := by
    rw [Int.natCast_sub Nat.one_le_two_pow]; push_cast; rfl
  obtain ⟨a, rfl⟩ : ∃ a : Nat, x = (a : Int) := ⟨x.toNat, by omega⟩
  rw [h3, u32_and_nat a _ (by omega) (by omega), Nat.and_two_pow_sub_one_eq_mod]
  push_cast
  rfl
end Rs
end Go.Proofs.Ytbcpflogkniojaa
/- Encode. -/
namespace Go.Proofs.Ytbcpflogkniojaa
open Go.RowKit
set_option linter.unusedSimpArgs false
set_option linter.unusedVariables false
namespace Rs
def Bad (op a b c n : Int) : Prop :=
  form op = 7 ∨ isReg a = false ∨ isReg b = false ∨ isReg c = false ∨ ((form op = 0 ∨ form op = 3 ∨ form op = 5) ∧ b ≠ 0) ∨ (form op ≠ 1 ∧ c ≠ 0) ∨ n < least op ∨ most op < n
instance (op a b c n : Int) : Decidable (Bad op a b c n) := by unfold Bad; exact inferInstance
def nmod (op : Int) : Int := if form op = 2 ∨ form op = 3 then 65536 else if form op = 4 then 1024 else if form op = 5 then 2097152 else 1
def enc (op a b c n : Int) : Int := op * 67108864 + a * 2097152 + b * 65536 + c * 2048 + n % nmod op
def encW (op a b c n : Int) : Int := if Bad op a b c n then 0 else enc op a b c n
def encE (op a b c n : Int) : Int := if Bad op a b c n then 200 else 0

theorem form_range (op : Int) (h : form op ≠ 7) : 0 ≤ op ∧ op ≤ 31 := by
  unfold form at h
  repeat' split at h
  all_goals first | omega | exact absurd rfl h
theorem form_8 (op : Int) : form op = 0 ∨ form op = 1 ∨ form op = 2 ∨ form op = 3 ∨ form op = 4 ∨ form op = 5 ∨ form op = 6 ∨ form op = 7 := by
  unfold form
  repeat' split
  all_goals simp
theorem isReg_range {n : Int} (h : isReg n = true) : 0 ≤ n ∧ n ≤ 31 := of_decide_eq_true h

theorem or_a {op a : Int} (h1 : 0 ≤ op ∧ op ≤ 31) (h2 : 0 ≤ a ∧ a ≤ 31) : bits .or .u32 (op * 67108864) (a * 2097152) = op * 67108864 + a * 2097152 := or32 _ _ 26 (by omega) (by omega) (by omega) (by omega) (by omega)
theorem or_b {op a b : Int} (h1 : 0 ≤ op ∧ op ≤ 31) (h2 : 0 ≤ a ∧ a ≤ 31) (h3 : 0 ≤ b ∧ b ≤ 31) : bits .or .u32 (op * 67108864 + a * 2097152) (b * 65536) = op * 67108864 + a * 2097152 + b * 65536 := or32 _ _ 21 (by omega) (by omega) (by omega) (by omega) (by omega)
theorem or_c {op a b c : Int} (h1 : 0 ≤ op ∧ op ≤ 31) (h2 : 0 ≤ a ∧ a ≤ 31) (h3 : 0 ≤ b ∧ b ≤ 31) (h4 : 0 ≤ c ∧ c ≤ 31) : bits .or .u32 (op * 67108864 + a * 2097152 + b * 65536) (c * 2048) = op * 67108864 + a * 2097152 + b * 65536 + c * 2048 := or32 _ _ 16 (by omega) (by omega) (by omega) (by omega) (by omega)
theorem or_n16 {op a b n : Int} (h1 : 0 ≤ op ∧ op ≤ 31) (h2 : 0 ≤ a ∧ a ≤ 31) (h3 : 0 ≤ b ∧ b ≤ 31) : bits .or .u32 (op * 67108864 + a * 2097152 + b * 65536) (n % 65536) = op * 67108864 + a * 2097152 + b * 65536 + n % 65536 := or32 _ _ 16 (by omega) (by omega) (by omega) (by omega) (by omega)
theorem or_n16z {op a n : Int} (h1 : 0 ≤ op ∧ op ≤ 31) (h2 : 0 ≤ a ∧ a ≤ 31) : bits .or .u32 (op * 67108864 + a * 2097152) (n % 65536) = op * 67108864 + a * 2097152 + n % 65536 := or32 _ _ 16 (by omega) (by omega) (by omega) (by omega) (by omega)
theorem or_n10 {op a b n : Int} (h1 : 0 ≤ op ∧ op ≤ 31) (h2 : 0 ≤ a ∧ a ≤ 31) (h3 : 0 ≤ b ∧ b ≤ 31) : bits .or .u32 (op * 67108864 + a * 2097152 + b * 65536) (n % 1024) = op * 67108864 + a * 2097152 + b * 65536 + n % 1024 := or32 _ _ 16 (by omega) (by omega) (by omega) (by omega) (by omega)
theorem or_n21 {op a n : Int} (h1 : 0 ≤ op ∧ op ≤ 31) (h2 : 0 ≤ a ∧ a ≤ 31) : bits .or .u32 (op * 67108864 + a * 2097152) (n % 2097152) = op * 67108864 + a * 2097152 + n % 2097152 := or32 _ _ 21 (by omega) (by omega) (by omega) (by omega) (by omega)
theorem and10 (n : Int) : bits .and .u32 (n % 4294967296) 1023 = n % 1024 := by
  have := and32 (n % 4294967296) 10 (by omega) (by omega) (by omega)
  rw [show ((2 : Int) ^ 10 - 1) = 1023 from rfl, show ((2 : Int) ^ 10) = 1024 from rfl] at this
  rw [this]; omega
theorem and21 (n : Int) : bits .and .u32 (n % 4294967296) 2097151 = n % 2097152 := by
  have := and32 (n % 4294967296) 21 (by omega) (by omega) (by omega)
  rw [show ((2 : Int) ^ 21 - 1) = 2097151 from rfl, show ((2 : Int) ^ 21) = 2097152 from rfl] at this
  rw [this]; omega
theorem wrap16 (n : Int) : IntKind.u16.wrap n % 4294967296 = n % 65536 := by
  rw [show IntKind.u16.wrap n = n % 65536 from rfl]; omega
theorem nmod_0 {op : Int} (h : form op = 0) (n : Int) : n % nmod op = 0 := by unfold nmod; rw [h]; simp
theorem nmod_1 {op : Int} (h : form op = 1) (n : Int) : n % nmod op = 0 := by unfold nmod; rw [h]; simp
theorem nmod_2 {op : Int} (h : form op = 2) (n : Int) : n % nmod op = n % 65536 := by unfold nmod; rw [h]; simp
theorem nmod_3 {op : Int} (h : form op = 3) (n : Int) : n % nmod op = n % 65536 := by unfold nmod; rw [h]; simp
theorem nmod_4 {op : Int} (h : form op = 4) (n : Int) : n % nmod op = n % 1024 := by unfold nmod; rw [h]; simp
theorem nmod_5 {op : Int} (h : form op = 5) (n : Int) : n % nmod op = n % 2097152 := by unfold nmod; rw [h]; simp
theorem nmod_6 {op : Int} (h : form op = 6) (n : Int) : n % nmod op = 0 := by unfold nmod; rw [h]; simp
theorem n_zero_0 {op n : Int} (h : form op = 0) (h1 : least op ≤ n) (h2 : n ≤ most op) : n = 0 := by
  unfold form at h
  unfold least form at h1
  unfold most form at h2
  repeat' split at h
  all_goals first | omega | (repeat' split at h1) <;> (repeat' split at h2) <;> omega
theorem n_zero_1 {op n : Int} (h : form op = 1) (h1 : least op ≤ n) (h2 : n ≤ most op) : n = 0 := by
  unfold form at h
  unfold least form at h1
  unfold most form at h2
  repeat' split at h
  all_goals first | omega | (repeat' split at h1) <;> (repeat' split at h2) <;> omega
theorem n_zero_6 {op n : Int} (h : form op = 6) (h1 : least op ≤ n) (h2 : n ≤ most op) : n = 0 := by
  unfold form at h
  unfold least form at h1
  unfold most form at h2
  repeat' split at h
  all_goals first | omega | (repeat' split at h1) <;> (repeat' split at h2) <;> omega
theorem ret2_u32 {a b : Int} {v : Value} (h : a = b) : Ending.returned (.tuple #[.int .u32 a, v]) = .returned (.tuple #[.int .u32 b, v]) := by rw [h]
end Rs
end Go.Proofs.Ytbcpflogkniojaa
/- Assembly, plainly. -/
namespace Go.Proofs.Ytbcpflogkniojaa
open Go.RowKit
set_option linter.unusedVariables false
set_option linter.unusedSimpArgs false
namespace As
/-- An item. -/
structure It where
  kind : Int
  op : Int
  a : Int
  b : Int
  c : Int
  n : Int
  label : Int
  num : Int
deriving DecidableEq
/-- Its cells. -/
def It.cells (x : It) : List Value := [.int .i64 x.kind, .int .i64 x.op, .int .i64 x.a, .int .i64 x.b, .int .i64 x.c, .int .i64 x.n, .int .i64 x.label, .int .i64 x.num]
def It.val (x : It) : Value := .agg x.cells.toArray
def flat (l : List It) : List Value := l.flatMap It.cells
def encOk (x : It) : Bool := decide (Rs.encE x.op x.a x.b x.c x.n = 0)
/-- May an item be? -/
def may (x : It) : Bool :=
  if x.kind = 0 then encOk x && decide (x.label = 0) && decide (x.num = 0)
  else if x.kind = 1 then decide (x.op = 0 ∧ x.a = 0 ∧ x.b = 0 ∧ x.c = 0 ∧ x.n = 0) && decide (x.num = 0)
  else if x.kind = 2 then encOk x && decide (24 ≤ x.op) && decide (x.op ≤ 27) && decide (x.n = 0) && decide (x.num = 0)
  else if x.kind = 3 then encOk x && decide (x.op = 28) && decide (x.n = 0) && decide (x.num = 0)
  else if x.kind = 4 then encOk x && decide (x.op = 20) && decide (x.n = 0) && decide (x.label = 0)
  else if x.kind = 5 then encOk x && decide (x.op = 20) && decide (x.n = 0) && decide (x.num = 0)
  else false
def isLabel (x : It) (k : Int) : Bool := decide (x.kind = 1) && decide (x.label = k)
/-- The place of a label among items. -/
def find (k : Int) : List It → Option Nat
  | [] => none
  | x :: l => if isLabel x k = true then some 0 else (find k l).map (· + 1)
def names (x : It) : Bool := decide (x.kind = 2) || decide (x.kind = 3) || decide (x.kind = 5)
/-- What is wrong first: the form, a label twice. -/
def errA (pre : List It) : List It → Int
  | [] => 0
  | x :: l => if may x = false then 210 else if x.kind = 1 ∧ (find x.label pre).isSome = true then 211 else errA (pre ++ [x]) l
/-- A label that is none. -/
def errN (all : List It) : List It → Int
  | [] => 0
  | x :: l => if names x = true ∧ find x.label all = none then 212 else errN all l
def err (l : List It) : Int := if 65536 < l.length then 213 else if errA [] l ≠ 0 then errA [] l else errN l l
def pieces (n : Int) : Nat :=
  if -32768 ≤ n ∧ n ≤ 32767 then 1 else if -2147483648 ≤ n ∧ n ≤ 2147483647 then 2 else if -140737488355328 ≤ n ∧ n ≤ 140737488355327 then 3 else 4
def size (x : It) (long : Bool) : Nat :=
  if x.kind = 1 then 0 else if x.kind = 2 then (if long = true then 2 else 1) else if x.kind = 4 then pieces x.num else if x.kind = 5 then 2 else 1
/-- Where the items stand. -/
def places : List It → List Bool → Nat → List Nat
  | x :: l, b :: bs, k => k :: places l bs (k + size x b)
  | _, _, _ => []
/-- Where the last one ends. -/
def total : List It → List Bool → Nat → Nat
  | x :: l, b :: bs, k => total l bs (k + size x b)
  | _, _, k => k
/-- How far a label is. -/
def far (all : List It) (ps : List Nat) (x : It) (p : Nat) : Int := (((find x.label all).bind fun i => ps[i]?).getD 0 : Nat) - (p : Int)
def stretch (all : List It) (ps : List Nat) (x : It) (b : Bool) (p : Nat) : Bool := b || (decide (x.kind = 2) && (decide (far all ps x p < -512) || decide (511 < far all ps x p)))
def grow (all : List It) (ps : List Nat) : List It → List Bool → List Nat → List Bool
  | x :: l, b :: bs, p :: qs => stretch all ps x b p :: grow all ps l bs qs
  | _, _, _ => []
/-- The layout that fits: so many rounds at most. -/
def layout (l : List It) : Nat → List Bool → List Bool
  | 0, bs => bs
  | k + 1, bs => if grow l (places l bs 0) l bs (places l bs 0) = bs then bs else layout l k (grow l (places l bs 0) l bs (places l bs 0))
def longs (l : List It) : List Bool := layout l (l.length + 1) (List.replicate l.length false)
/-- Pieces of a number, from piece k - 1 downwards. -/
def tailP (r n : Int) : Nat → List Int
  | 0 => []
  | k + 1 => Rs.encW 21 r 0 0 (n / 2 ^ (16 * k) % 65536) :: tailP r n k
def number (r n : Int) (k : Nat) : List Int := Rs.encW 20 r 0 0 ((n / 2 ^ (16 * (k - 1)) + 32768) % 65536 - 32768) :: tailP r n (k - 1)
def opposite (op : Int) : Int := if op = 24 then 25 else if op = 25 then 24 else if op = 26 then 27 else 26
/-- The words of an item that stands at p, its label f away. -/
def words (x : It) (long : Bool) (p : Nat) (f : Int) : List Int :=
  if x.kind = 0 then [Rs.encW x.op x.a x.b x.c x.n]
  else if x.kind = 2 then (if long = true then [Rs.encW (opposite x.op) x.a x.b 0 2, Rs.encW 28 0 0 0 (f - 1)] else [Rs.encW x.op x.a x.b x.c f])
  else if x.kind = 3 then [Rs.encW x.op x.a x.b x.c f]
  else if x.kind = 4 then number x.a x.num (pieces x.num)
  else if x.kind = 5 then number x.a (f + p) 2
  else []
def write (all : List It) (ps : List Nat) : List It → List Bool → List Nat → List Int
  | x :: l, b :: bs, p :: qs => words x b p (far all ps x p) ++ write all ps l bs qs
  | _, _, _ => []
def places0 (l : List It) : List Nat := places l (longs l) 0
def code (l : List It) : List Int := write l (places0 l) l (longs l) (places0 l)

theorem grow_length (all : List It) (ps : List Nat) : ∀ (l : List It) (bs : List Bool) (qs : List Nat), bs.length = l.length → qs.length = l.length → (grow all ps l bs qs).length = l.length
  | [], _, _, _, _ => by simp [grow]
  | x :: l, b :: bs, q :: qs, h1, h2 => by simp [grow, grow_length all ps l bs qs (by simpa using h1) (by simpa using h2)]
  | x :: l, [], _, h1, _ => by simp at h1
  | x :: l, _ :: _, [], _, h2 => by simp at h2
theorem places_length : ∀ (l : List It) (bs : List Bool) (k : Nat), bs.length = l.length → (places l bs k).length = l.length
  | [], _, _, _ => by simp [places]
  | x :: l, b :: bs, k, h => by simp [places, places_length l bs _ (by simpa using h)]
  | x :: l, [], _, h => by simp at h
/-- Growing never makes short. -/
theorem grow_mono (all : List It) (ps : List Nat) : ∀ (l : List It) (bs : List Bool) (qs : List Nat), bs.length = l.length → qs.length = l.length → ∀ i : Nat, bs[i]? = some true → (grow all ps l bs qs)[i]? = some true
  | [], bs, _, h, _, i, hi => by have : bs = [] := List.eq_nil_of_length_eq_zero (by simpa using h); rw [this] at hi; simp at hi
  | x :: l, b :: bs, q :: qs, h1, h2, 0, hi => by simp at hi; simp [grow, stretch, hi]
  | x :: l, b :: bs, q :: qs, h1, h2, i + 1, hi => by
    simp only [grow, List.getElem?_cons_succ] at hi ⊢
    exact grow_mono all ps l bs qs (by simpa using h1) (by simpa using h2) i hi
  | x :: l, [], _, h1, _, _, _ => by simp at h1
  | x :: l, _ :: _, [], _, h2, _, _ => by simp at h2
theorem grow_count (all : List It) (ps : List Nat) : ∀ (l : List It) (bs : List Bool) (qs : List Nat), bs.length = l.length → qs.length = l.length → grow all ps l bs qs ≠ bs → bs.count true < (grow all ps l bs qs).count true
  | [], bs, _, h, _, hne => by have : bs = [] := List.eq_nil_of_length_eq_zero (by simpa using h); subst this; simp [grow] at hne
  | x :: l, b :: bs, q :: qs, h1, h2, hne => by
    have hle : ∀ (l : List It) (bs : List Bool) (qs : List Nat), bs.length = l.length → qs.length = l.length → bs.count true ≤ (grow all ps l bs qs).count true := by
      intro l
      induction l with
      | nil => intro bs qs h _; have : bs = [] := List.eq_nil_of_length_eq_zero (by simpa using h); subst this; simp
      | cons y l ih =>
        intro bs qs h1 h2
        match bs, qs, h1, h2 with
        | b :: bs, q :: qs, h1, h2 =>
          have := ih bs qs (by simpa using h1) (by simpa using h2)
          simp only [grow, List.count_cons]
          have hb : (if (b == true) = true then 1 else 0) ≤ (if (stretch all ps y b q == true) = true then 1 else 0) := by
            cases b <;> simp [stretch]
          omega
    simp only [grow] at hne ⊢
    simp only [List.count_cons]
    have hl := hle l bs qs (by simpa using h1) (by simpa using h2)
    by_cases hx : stretch all ps x b q = b
    · rw [hx] at hne ⊢
      have := grow_count all ps l bs qs (by simpa using h1) (by simpa using h2) (fun e => hne (by rw [e]))
      omega
    · have hbf : b = false := by
        cases b with
        | false => rfl
        | true => exact absurd (by simp [stretch]) hx
      subst hbf
      have hs : stretch all ps x false q = true := by
        cases h : stretch all ps x false q with
        | true => rfl
        | false => exact absurd h hx
      rw [hs]
      simp
      omega
  | x :: l, [], _, h1, _, _ => by simp at h1
  | x :: l, _ :: _, [], _, h2, _ => by simp at h2
/-- So many rounds are enough. -/
theorem layout_fix (l : List It) : ∀ (k : Nat) (bs : List Bool), bs.length = l.length → l.length < k + bs.count true → grow l (places l (layout l k bs) 0) l (layout l k bs) (places l (layout l k bs) 0) = layout l k bs ∧ (layout l k bs).length = l.length
  | 0, bs, h, hk => by
    have := List.count_le_length (a := true) (l := bs)
    omega
  | k + 1, bs, h, hk => by
    unfold layout
    split
    · rename_i he
      exact ⟨he, h⟩
    · rename_i he
      have hp := places_length l bs 0 h
      have hc := grow_count l (places l bs 0) l bs (places l bs 0) h hp he
      exact layout_fix l k _ (grow_length _ _ _ _ _ h hp) (by omega)
theorem longs_fix (l : List It) : grow l (places0 l) l (longs l) (places0 l) = longs l ∧ (longs l).length = l.length := layout_fix l _ _ (by simp) (by omega)
end As
end Go.Proofs.Ytbcpflogkniojaa
/- A slice of items that came in, opened. -/
namespace Go.Proofs.Ytbcpflogkniojaa
open Go.ChangeShapes Go.WideShapes Go.Deep Go.RowKit
set_option linter.unusedVariables false
set_option linter.unusedSimpArgs false
/-- The cells of an item at an offset. -/
structure ItAt (w : World) (b o : Nat) (x : As.It) : Prop where
  c0 : w.cell? ⟨b, o, none⟩ = some (.int .i64 x.kind)
  c1 : w.cell? ⟨b, o + 1, none⟩ = some (.int .i64 x.op)
  c2 : w.cell? ⟨b, o + 2, none⟩ = some (.int .i64 x.a)
  c3 : w.cell? ⟨b, o + 3, none⟩ = some (.int .i64 x.b)
  c4 : w.cell? ⟨b, o + 4, none⟩ = some (.int .i64 x.c)
  c5 : w.cell? ⟨b, o + 5, none⟩ = some (.int .i64 x.n)
  c6 : w.cell? ⟨b, o + 6, none⟩ = some (.int .i64 x.label)
  c7 : w.cell? ⟨b, o + 7, none⟩ = some (.int .i64 x.num)
/-- A slice of items. -/
def ISl (w : World) (v : Value) (l : List As.It) : Prop :=
  ∃ a cap, v = .slice a l.length cap ∧ (l = [] ∨ ∃ b off, a = some ⟨b, off, none⟩ ∧ b < w.heap.size ∧ ∀ (j : Nat) (x : As.It), l[j]? = some x → ItAt w b (off + j * 8) x)
theorem ItAt.of {w w' : World} {b o : Nat} {x : As.It} (h : ItAt w b o x) (hc : ∀ j, w'.cell? ⟨b, j, none⟩ = w.cell? ⟨b, j, none⟩) : ItAt w' b o x :=
  ⟨(hc _).trans h.c0, (hc _).trans h.c1, (hc _).trans h.c2, (hc _).trans h.c3, (hc _).trans h.c4, (hc _).trans h.c5, (hc _).trans h.c6, (hc _).trans h.c7⟩
theorem ISl.len {w : World} {v : Value} {l : List As.It} (h : ISl w v l) : ∃ a cap, v = .slice a l.length cap := by
  obtain ⟨a, cap, h, _⟩ := h
  exact ⟨a, cap, h⟩
theorem ISl.below {w w' : World} {v : Value} {l : List As.It} {N : Nat} (h : ISl w v l) (hb : Below N w w') (hN : w.heap.size ≤ N) : ISl w' v l := by
  obtain ⟨a, cap, hv, h | ⟨b, off, h1, h2, h3⟩⟩ := h
  · exact ⟨a, cap, hv, .inl h⟩
  · exact ⟨a, cap, hv, .inr ⟨b, off, h1, by have := hb.size; omega, fun j x hx => (h3 j x hx).of (fun k => hb.cell (p := ⟨b, k, none⟩) (by show b < N; omega))⟩⟩
theorem ISl.drewN {w : World} {v : Value} {l : List As.It} (h : ISl w v l) (n : Nat) : ISl (w.drewN n) v l := by
  obtain ⟨a, cap, hv, h | ⟨b, off, h1, h2, h3⟩⟩ := h
  · exact ⟨a, cap, hv, .inl h⟩
  · exact ⟨a, cap, hv, .inr ⟨b, off, h1, h2, fun j x hx => (h3 j x hx).of (fun _ => rfl)⟩⟩
theorem ISl.at {w : World} {a : Option Addr} {n cap : Nat} {l : List As.It} (h : ISl w (.slice a n cap) l) (hne : l ≠ []) : ∃ b off, a = some ⟨b, off, none⟩ ∧ b < w.heap.size ∧ ∀ (j : Nat) (x : As.It), l[j]? = some x → ItAt w b (off + j * 8) x := by
  obtain ⟨a', cap', hv, h | ⟨b, off, h1, h2, h3⟩⟩ := h
  · exact absurd h hne
  · cases hv
    exact ⟨b, off, h1, h2, h3⟩
theorem itemFields : ∀ fs, Try.prog.underlying 35 = some (.struct fs) → Try.prog.cellsOf 35 = 8 ∧ fs.size = 4 ∧ (fs[0]?.map fun f => (f.type, f.offset)) = some (3, 0) ∧ (fs[1]?.map fun f => (f.type, f.offset)) = some (33, 1) ∧ (fs[2]?.map fun f => (f.type, f.offset)) = some (3, 6) ∧ (fs[3]?.map fun f => (f.type, f.offset)) = some (3, 7) := by
  intro fs h
  rw [Try.underlying35] at h
  injection h with h
  injection h with h
  subst h
  exact ⟨by kernel_rfl, rfl, rfl, rfl, rfl, rfl⟩
theorem instrFields5 : ∀ fs, Try.prog.underlying 33 = some (.struct fs) → Try.prog.cellsOf 33 = 5 ∧ fs.size = 5 ∧ ∀ j, j < 5 → (fs[j]?.map fun f => (f.type, f.offset)) = some (3, j) := by
  intro fs h
  rw [Try.underlying33] at h
  injection h with h
  injection h with h
  subst h
  exact ⟨by kernel_rfl, rfl, by decide⟩
theorem cells_int : Try.prog.cellsOf 3 = 1 := by kernel_rfl
section
variable {H : Type} {enc : TypeId × Value → H} {w : World} {base : Nat} {spare : Nat → Bool} {held : Bool}
theorem got_some {α β : Type} {o : Option α} {f : α → β} {b : β} (h : o.map f = some b) : ∃ a, o = some a ∧ f a = b := by cases o with
  | none => cases h
  | some a => exact ⟨a, rfl, by simpa using h⟩
theorem int_at {n o : Nat} {cs : List Value} {y : Option (DataW H × List MemPlace)} (ho : o < cs.length) (hy : y.isSome = true) (h : DataW.trod enc Try.prog w base spare held n 3 ((cs.drop o).take (Try.prog.cellsOf 3)) = y) : ∃ z : Int, cs[o]? = some (.int .i64 z) ∧ (Lit.int .i64 z).wf = true := by
  rw [cells_int, List.drop_eq_getElem_cons ho] at h
  obtain ⟨y', rfl⟩ := Option.isSome_iff_exists.1 hy
  obtain ⟨z, hz, _, hw⟩ := DataW.trod_int Try.underlying3 h
  have hz2 : cs[o] = .int .i64 z := by have h3 := hz; rw [List.take_succ_cons, List.take_zero] at h3; simpa using h3
  exact ⟨z, by rw [List.getElem?_eq_getElem ho, hz2], hw⟩
theorem open_item {n : Nat} {cs : List Value} {y : DataW H × List MemPlace} (hl : cs.length = 8) (h : DataW.trod enc Try.prog w base spare held n 35 cs = some y) :
    ∃ x : As.It, (∀ j : Nat, cs[j]? = x.cells[j]?) ∧ (Lit.int .i64 x.num).wf = true := by
  have hu := Try.underlying35
  obtain ⟨h1, h2, f0, f1, f2, f3⟩ := itemFields _ hu
  obtain ⟨ys, n', _, _, _, hyl, hf⟩ := DataW.trod_struct hu h
  obtain ⟨g0, e0, p0⟩ := got_some f0
  obtain ⟨g1, e1, p1⟩ := got_some f1
  obtain ⟨g2, e2, p2⟩ := got_some f2
  obtain ⟨g3, e3, p3⟩ := got_some f3
  simp only [Prod.mk.injEq] at p0 p1 p2 p3
  have k0 := hf 0 g0 e0
  have k1 := hf 1 g1 e1
  have k2 := hf 2 g2 e2
  have k3 := hf 3 g3 e3
  rw [p0.1, p0.2] at k0
  rw [p1.1, p1.2] at k1
  rw [p2.1, p2.2] at k2
  rw [p3.1, p3.2] at k3
  have hsome : ∀ i, i < 4 → (ys[i]?).isSome = true := fun i hi => by rw [List.getElem?_eq_getElem (by omega)]; rfl
  obtain ⟨z0, a0, -⟩ := int_at (by omega) (hsome 0 (by omega)) k0
  obtain ⟨z6, a6, -⟩ := int_at (by omega) (hsome 2 (by omega)) k2
  obtain ⟨z7, a7, w7⟩ := int_at (by omega) (hsome 3 (by omega)) k3
  have hv := Try.underlying33
  obtain ⟨q1, q2, q3⟩ := instrFields5 _ hv
  rw [q1] at k1
  obtain ⟨y1, hy1⟩ := Option.isSome_iff_exists.1 (hsome 1 (by omega))
  rw [hy1] at k1
  obtain ⟨zs, n2, _, _, _, hzl, hg⟩ := DataW.trod_struct hv k1
  have hl5 : ((cs.drop 1).take 5).length = 5 := by simp; omega
  have key : ∀ j, j < 5 → ∃ z : Int, cs[1 + j]? = some (.int .i64 z) := by
    intro j hj
    obtain ⟨g, e, p⟩ := got_some (q3 j hj)
    simp only [Prod.mk.injEq] at p
    have k := hg j g e
    rw [p.1, p.2] at k
    obtain ⟨z, hz, -⟩ := int_at (by omega) (by rw [List.getElem?_eq_getElem (by omega)]; rfl) k
    refine ⟨z, ?_⟩
    rw [List.getElem?_take, if_pos hj, List.getElem?_drop] at hz
    exact hz
  obtain ⟨z1, a1⟩ := key 0 (by omega)
  obtain ⟨z2, a2⟩ := key 1 (by omega)
  obtain ⟨z3, a3⟩ := key 2 (by omega)
  obtain ⟨z4, a4⟩ := key 3 (by omega)
  obtain ⟨z5, a5⟩ := key 4 (by omega)
  refine ⟨⟨z0, z1, z2, z3, z4, z5, z6, z7⟩, fun j => ?_, w7⟩
  rcases (by omega : j = 0 ∨ j = 1 ∨ j = 2 ∨ j = 3 ∨ j = 4 ∨ j = 5 ∨ j = 6 ∨ j = 7 ∨ 8 ≤ j) with rfl | rfl | rfl | rfl | rfl | rfl | rfl | rfl | hj
  · exact a0
  · exact a1
  · exact a2
  · exact a3
  · exact a4
  · exact a5
  · exact a6
  · exact a7
  · rw [List.getElem?_eq_none (by omega), List.getElem?_eq_none (by simp [As.It.cells]; omega)]
theorem items_of (n : Nat) (q : Nat → As.It → Prop) (h : ∀ i, i < n → ∃ m, q i m) : ∃ l : List As.It, l.length = n ∧ ∀ (i : Nat) (x : As.It), l[i]? = some x → q i x := by
  induction n with
  | zero => exact ⟨[], rfl, fun i x hx => by simp at hx⟩
  | succ n ih =>
    obtain ⟨l, hl, hq⟩ := ih (fun i hi => h i (by omega))
    obtain ⟨m, hm⟩ := h n (by omega)
    refine ⟨l ++ [m], by simp [hl], fun i x hx => ?_⟩
    by_cases hin : i < n
    · rw [List.getElem?_append_left (by omega)] at hx
      exact hq i x hx
    · have hlt : i < (l ++ [m]).length := (List.getElem?_eq_some_iff.1 hx).1
      simp at hlt
      have : i = n := by omega
      subst this
      rw [List.getElem?_append_right (by omega), hl] at hx
      simp at hx
      rw [← hx]; exact hm
theorem open_items {r : Reach} {b0 : Nat} {v : Value} {d : DataW H} {ps : List MemPlace} (hval : Value.okWide Try.prog w r b0 22 v) (h : DataW.Trod enc Try.prog w base spare held 22 v d ps) :
    ∃ a cap l, v = .slice a l.length cap ∧ ISl w (.slice a l.length cap) l ∧ l.length ≤ 9223372036854775807 ∧ ∀ x ∈ l, -9223372036854775808 ≤ x.num ∧ x.num ≤ 9223372036854775807 := by
  obtain ⟨a, len, cap, rfl⟩ := okWide_slice Try.underlying22 hval
  obtain ⟨fuel, hf⟩ := h
  have hu := Try.underlying35
  obtain ⟨hC, -⟩ := itemFields _ hu
  rcases open_slice Try.underlying22 hf with ⟨hcs, _⟩ | ⟨a', len', cap', m, n, D, Pl, hcs, _, hle, hmax, hm, _, hi⟩
  · simp [Value.cells] at hcs
    obtain ⟨rfl, rfl, rfl⟩ := hcs
    exact ⟨none, 0, [], rfl, ⟨none, 0, rfl, .inl rfl⟩, by simp, by simp⟩
  · simp [Value.cells] at hcs
    obtain ⟨rfl, rfl, rfl⟩ := hcs
    have hml : len ≤ m := by rw [hm]; split <;> omega
    have hcells : ∀ i, i < len → ∃ x : As.It, (∀ j u, x.cells[j]? = some u → w.cell? (a'.add (i * 8 + j)) = some u) ∧ (-9223372036854775808 ≤ x.num ∧ x.num ≤ 9223372036854775807) := by
      intro i hil
      obtain ⟨cs', hc, ht'⟩ := hi i (by omega)
      rw [hC] at hc
      obtain ⟨_, hcl, hat⟩ := World.cells?_some hc
      obtain ⟨x, hx, hw⟩ := open_item hcl ht'
      refine ⟨x, fun j u hu => ?_, ?_⟩
      · have h1 := hx j
        rw [hu] at h1
        have hj : j < 8 := by have := (List.getElem?_eq_some_iff.1 h1).1; omega
        rw [← Go.Deep.add_add, hat j hj, h1]
      · simp only [Lit.wf, Bool.and_eq_true, decide_eq_true_eq] at hw
        exact ⟨hw.1, hw.2⟩
    obtain ⟨l, hl, hq⟩ := items_of len _ hcells
    subst hl
    refine ⟨some a', cap, l, rfl, ⟨some a', cap, rfl, ?_⟩, ?_, fun x hx => ?_⟩
    · by_cases hne : l = []
      · exact .inl hne
      · have hpos : 0 < l.length := List.length_pos_iff.2 hne
        have h0 := (hq 0 l[0] (List.getElem?_eq_getElem hpos)).1 0 _ rfl
        obtain ⟨b, off, spot⟩ := a'
        have hspot : spot = none := by simpa [Addr.add] using World.cell?_spot h0
        subst hspot
        refine .inr ⟨b, off, rfl, ?_, fun j x hx => ?_⟩
        · have := World.block_lt_of_cell? w _ h0
          simpa [Addr.add] using this
        · have hc := (hq j x hx).1
          have get : ∀ i u, x.cells[i]? = some u → w.cell? ⟨b, off + j * 8 + i, none⟩ = some u := by
            intro i u hu
            have := hc i u hu
            rw [Go.WideShapes.add_plain] at this
            rw [Nat.add_assoc]
            exact this
          exact ⟨get 0 _ rfl, get 1 _ rfl, get 2 _ rfl, get 3 _ rfl, get 4 _ rfl, get 5 _ rfl, get 6 _ rfl, get 7 _ rfl⟩
    · simp only [maxLen] at hmax
      omega
    · obtain ⟨i, hi⟩ := List.mem_iff_getElem?.1 hx
      exact (hq i x hi).2
end
end Go.Proofs.Ytbcpflogkniojaa
/- Assembly: where the words stand; long branches are long. -/
namespace Go.Proofs.Ytbcpflogkniojaa
open Go.RowKit
set_option linter.unusedVariables false
set_option linter.unusedSimpArgs false
namespace As
theorem tailP_length (r n : Int) : ∀ k, (tailP r n k).length = k
  | 0 => rfl
  | k + 1 => by simp [tailP, tailP_length r n k]
theorem pieces_pos (n : Int) : 1 ≤ pieces n ∧ pieces n ≤ 4 := by
  unfold pieces
  repeat' split
  all_goals omega
theorem number_length (r n : Int) {k : Nat} (h : 1 ≤ k) : (number r n k).length = k := by
  unfold number
  simp [tailP_length]
  omega
theorem may_kind {x : It} (h : may x = true) : x.kind = 0 ∨ x.kind = 1 ∨ x.kind = 2 ∨ x.kind = 3 ∨ x.kind = 4 ∨ x.kind = 5 := by
  unfold may at h
  repeat' split at h
  all_goals first | omega | (simp at h)
theorem words_length {x : It} (h : may x = true) (b : Bool) (p : Nat) (f : Int) : (words x b p f).length = size x b := by
  unfold words size
  rcases may_kind h with k | k | k | k | k | k <;> rw [k] <;> simp
  · cases b <;> simp
  · exact number_length _ _ (pieces_pos _).1
  · exact number_length _ _ (by omega)
theorem size_le (x : It) (b : Bool) : size x b ≤ 4 := by
  unfold size
  have := pieces_pos x.num
  repeat' split
  all_goals omega
theorem size_mono (x : It) (b : Bool) : size x false ≤ size x b := by
  cases b
  · exact Nat.le_refl _
  · unfold size
    repeat' split
    all_goals first | omega | simp_all
/-- The places, one by one. -/
theorem places_get : ∀ (l : List It) (bs : List Bool) (k i : Nat), bs.length = l.length → i < l.length → (places l bs k)[i]? = some (total (l.take i) (bs.take i) k)
  | [], _, _, _, _, h => by simp at h
  | x :: l, b :: bs, k, 0, _, _ => by simp [places, total]
  | x :: l, b :: bs, k, i + 1, h1, h2 => by
    simp only [places, List.getElem?_cons_succ, List.take_succ_cons, total]
    exact places_get l bs _ i (by simpa using h1) (by simpa using h2)
  | x :: l, [], _, _, h, _ => by simp at h
theorem total_le : ∀ (l : List It) (bs : List Bool) (k : Nat), k ≤ total l bs k ∧ total l bs k ≤ k + 4 * l.length
  | [], bs, k => by simp [total]
  | x :: l, [], k => by simp [total]
  | x :: l, b :: bs, k => by
    have h1 := total_le l bs (k + size x b)
    have h2 := size_le x b
    simp only [total, List.length_cons]
    omega
/-- The words of an item stand at its place. -/
theorem write_split (all : List It) (ps : List Nat) : ∀ (l : List It) (bs : List Bool) (k i : Nat) (x : It) (b : Bool) (p : Nat), bs.length = l.length → l[i]? = some x → bs[i]? = some b → (places l bs k)[i]? = some p → (∀ y ∈ l, may y = true) →
    ∃ pre post, write all ps l bs (places l bs k) = pre ++ words x b p (far all ps x p) ++ post ∧ pre.length + k = p
  | [], _, _, _, _, _, _, _, hx, _, _, _ => by simp at hx
  | y :: l, [], _, _, _, _, _, h, _, _, _, _ => by simp at h
  | y :: l, c :: bs, k, 0, x, b, p, h, hx, hb, hp, hm => by
    simp only [places, List.getElem?_cons_zero, Option.some.injEq] at hx hb hp
    subst hx hb hp
    exact ⟨[], write all ps l bs (places l bs (k + size y c)), by simp only [places, write, List.nil_append], by simp⟩
  | y :: l, c :: bs, k, i + 1, x, b, p, h, hx, hb, hp, hm => by
    simp only [places, List.getElem?_cons_succ] at hx hb hp
    obtain ⟨pre, post, h1, h2⟩ := write_split all ps l bs (k + size y c) i x b p (by simpa using h) hx hb hp (fun z hz => hm z (by simp [hz]))
    refine ⟨words y c k (far all ps y k) ++ pre, post, ?_, ?_⟩
    · simp only [places, write]
      rw [h1]
      simp
    · rw [List.length_append, words_length (hm y (by simp))]
      omega
/-- All words together. -/
theorem write_length (all : List It) (ps : List Nat) : ∀ (l : List It) (bs : List Bool) (k : Nat), bs.length = l.length → (∀ y ∈ l, may y = true) → (write all ps l bs (places l bs k)).length + k = total l bs k
  | [], bs, k, _, _ => by simp [places, write, total]
  | y :: l, [], _, h, _ => by simp at h
  | y :: l, c :: bs, k, h, hm => by
    have := write_length all ps l bs (k + size y c) (by simpa using h) (fun z hz => hm z (by simp [hz]))
    simp only [places, write, total, List.length_append, words_length (hm y (by simp))]
    omega
/-- One layout is as long as another, item by item. -/
def Le (bs cs : List Bool) : Prop := bs.length = cs.length ∧ ∀ i : Nat, bs[i]? = some true → cs[i]? = some true
/-- How many words are between two places. -/
theorem total_split : ∀ (l : List It) (bs : List Bool) (k i j : Nat), bs.length = l.length → i ≤ j → j ≤ l.length → total (l.take j) (bs.take j) k = total ((l.take j).drop i) ((bs.take j).drop i) (total (l.take i) (bs.take i) k)
  | l, bs, k, 0, j, _, _, _ => by simp [total]
  | [], _, k, i + 1, j, _, _, h => by simp at h; omega
  | x :: l, [], _, _, _, h, _, _ => by simp at h
  | x :: l, b :: bs, k, i + 1, j + 1, h, hij, hj => by
    simp only [List.take_succ_cons, List.drop_succ_cons, total]
    exact total_split l bs _ i j (by simpa using h) (by omega) (by simpa using hj)
  | x :: l, b :: bs, k, i + 1, 0, h, hij, hj => by omega
theorem total_add : ∀ (l : List It) (bs : List Bool) (k d : Nat), total l bs (k + d) = total l bs k + d
  | [], bs, k, d => by simp [total]
  | x :: l, [], k, d => by simp [total]
  | x :: l, b :: bs, k, d => by
    simp only [total]
    rw [show k + d + size x b = k + size x b + d by omega]
    exact total_add l bs _ d
theorem size_le_of {x : It} {b c : Bool} (h : b = true → c = true) : size x b ≤ size x c := by
  cases b
  · exact size_mono x c
  · rw [h rfl]; exact Nat.le_refl _
theorem total_mono : ∀ (l : List It) (bs cs : List Bool) (k : Nat), bs.length = l.length → cs.length = l.length → (∀ i : Nat, bs[i]? = some true → cs[i]? = some true) → total l bs k ≤ total l cs k
  | [], bs, cs, k, _, _, _ => by simp [total]
  | x :: l, b :: bs, c :: cs, k, h1, h2, h => by
    have h0 : b = true → c = true := fun hb => by have := h 0 (by simp [hb]); simpa using this
    have hs := size_le_of (x := x) h0
    have h3 := total_mono l bs cs (k + size x c) (by simpa using h1) (by simpa using h2) (fun i hi => by have := h (i + 1) (by simpa using hi); simpa using this)
    simp only [total]
    obtain ⟨d, hd⟩ : ∃ d, size x c = size x b + d := ⟨size x c - size x b, by omega⟩
    have h4 := total_add l bs (k + size x b) d
    have h5 : k + size x c = k + size x b + d := by omega
    rw [h5] at h3 ⊢
    omega
  | x :: l, [], _, _, h, _, _ => by simp at h
  | x :: l, _ :: _, [], _, _, h, _ => by simp at h
end As
end Go.Proofs.Ytbcpflogkniojaa
/- Assembly: a branch is long just where it would not reach. -/
namespace Go.Proofs.Ytbcpflogkniojaa
open Go.RowKit
set_option linter.unusedVariables false
set_option linter.unusedSimpArgs false
namespace As
theorem find_some (k : Int) : ∀ (l : List It) (t : Nat), find k l = some t → ∃ y, l[t]? = some y ∧ isLabel y k = true
  | [], t, h => by simp [find] at h
  | x :: l, t, h => by
    unfold find at h
    split at h
    · rename_i hx
      injection h with h
      subst h
      exact ⟨x, rfl, hx⟩
    · cases hf : find k l with
      | none => rw [hf] at h; simp at h
      | some u =>
        rw [hf] at h
        simp at h
        subst h
        obtain ⟨y, h1, h2⟩ := find_some k l u hf
        exact ⟨y, by simpa using h1, h2⟩
theorem find_lt {k : Int} {l : List It} {t : Nat} (h : find k l = some t) : t < l.length := by
  obtain ⟨y, h1, _⟩ := find_some k l t h
  exact (List.getElem?_eq_some_iff.1 h1).1
/-- Where item i stands. -/
def pl (l : List It) (bs : List Bool) (i : Nat) : Nat := total (l.take i) (bs.take i) 0
theorem far_eq {l : List It} {bs : List Bool} {x : It} {t : Nat} (h : bs.length = l.length) (hf : find x.label l = some t) (p : Nat) : far l (places l bs 0) x p = (pl l bs t : Int) - p := by
  unfold far
  rw [hf, Option.bind_some, places_get l bs 0 t h (find_lt hf)]
  rfl
/-- What is between two places. -/
theorem pl_diff {l : List It} {bs : List Bool} {i j : Nat} (h : bs.length = l.length) (hij : i ≤ j) (hj : j ≤ l.length) : pl l bs j = pl l bs i + total ((l.take j).drop i) ((bs.take j).drop i) 0 := by
  unfold pl
  rw [total_split l bs 0 i j h hij hj]
  have := total_add ((l.take j).drop i) ((bs.take j).drop i) 0 (total (l.take i) (bs.take i) 0)
  rw [Nat.zero_add] at this
  omega
theorem between_mono {l : List It} {bs cs : List Bool} {i j : Nat} (h1 : bs.length = l.length) (h2 : cs.length = l.length) (hle : ∀ i : Nat, bs[i]? = some true → cs[i]? = some true) :
    total ((l.take j).drop i) ((bs.take j).drop i) 0 ≤ total ((l.take j).drop i) ((cs.take j).drop i) 0 := by
  refine total_mono _ _ _ _ (by simp; omega) (by simp; omega) (fun k hk => ?_)
  rw [List.getElem?_drop, List.getElem?_take] at hk ⊢
  split at hk
  · rename_i hlt
    rw [if_pos hlt]
    exact hle _ hk
  · cases hk
def Far (z : Int) : Prop := z < -512 ∨ 511 < z
theorem far_grow {l : List It} {bs cs : List Bool} {i t : Nat} (h1 : bs.length = l.length) (h2 : cs.length = l.length) (hle : ∀ i : Nat, bs[i]? = some true → cs[i]? = some true) (hi : i ≤ l.length) (ht : t ≤ l.length)
    (hf : Far ((pl l bs t : Int) - pl l bs i)) : Far ((pl l cs t : Int) - pl l cs i) := by
  rcases Nat.le_total i t with hit | hit
  · have e1 := pl_diff h1 hit ht
    have e2 := pl_diff h2 hit ht
    have := between_mono (l := l) (i := i) (j := t) h1 h2 hle
    unfold Far at *
    omega
  · have e1 := pl_diff h1 hit hi
    have e2 := pl_diff h2 hit hi
    have := between_mono (l := l) (i := t) (j := i) h1 h2 hle
    unfold Far at *
    omega
theorem grow_get (all : List It) (ps : List Nat) : ∀ (l : List It) (bs : List Bool) (qs : List Nat) (i : Nat) (x : It) (b : Bool) (q : Nat), l[i]? = some x → bs[i]? = some b → qs[i]? = some q → (grow all ps l bs qs)[i]? = some (stretch all ps x b q)
  | x :: l, b :: bs, q :: qs, 0, _, _, _, h1, h2, h3 => by
    simp only [List.getElem?_cons_zero, Option.some.injEq] at h1 h2 h3
    subst h1 h2 h3
    simp [grow]
  | x :: l, b :: bs, q :: qs, i + 1, _, _, _, h1, h2, h3 => by
    simp only [List.getElem?_cons_succ, grow] at h1 h2 h3 ⊢
    exact grow_get all ps l bs qs i _ _ _ h1 h2 h3
  | [], _, _, _, _, _, _, h1, _, _ => by simp at h1
  | _ :: _, [], _, _, _, _, _, _, h2, _ => by simp at h2
  | _ :: _, _ :: _, [], _, _, _, _, _, _, h3 => by simp at h3
/-- What is long does not reach. -/
def Out (l : List It) (bs : List Bool) : Prop := ∀ (i : Nat) (x : It), l[i]? = some x → bs[i]? = some true → x.kind = 2 ∧ ∀ t, find x.label l = some t → Far ((pl l bs t : Int) - pl l bs i)
theorem out_grow {l : List It} {bs : List Bool} (h : bs.length = l.length) (ho : Out l bs) : Out l (grow l (places l bs 0) l bs (places l bs 0)) := by
  intro i x hx hb
  have hi : i < l.length := (List.getElem?_eq_some_iff.1 hx).1
  have hp := places_length l bs 0 h
  have hq := places_get l bs 0 i h hi
  obtain ⟨b, hbi⟩ : ∃ b, bs[i]? = some b := ⟨_, List.getElem?_eq_getElem (by omega)⟩
  have hg := grow_get l (places l bs 0) l bs (places l bs 0) i x b _ hx hbi hq
  rw [hb] at hg
  injection hg with hg
  have hle := grow_mono l (places l bs 0) l bs (places l bs 0) h hp
  have hl := grow_length l (places l bs 0) l bs (places l bs 0) h hp
  have key : x.kind = 2 ∧ ∀ t, find x.label l = some t → Far ((pl l bs t : Int) - pl l bs i) := by
    cases b with
    | true => exact ho i x hx hbi
    | false =>
      unfold stretch at hg
      simp only [Bool.false_or] at hg
      have hg' := hg.symm
      simp only [Bool.and_eq_true, Bool.or_eq_true, decide_eq_true_eq] at hg'
      refine ⟨hg'.1, fun t ht => ?_⟩
      have := hg'.2
      rw [far_eq h ht] at this
      exact this
  exact ⟨key.1, fun t ht => far_grow h hl hle (by omega) (Nat.le_of_lt (find_lt ht)) (key.2 t ht)⟩
theorem out_layout (l : List It) : ∀ (k : Nat) (bs : List Bool), bs.length = l.length → Out l bs → Out l (layout l k bs)
  | 0, bs, _, h => h
  | k + 1, bs, hl, h => by
    unfold layout
    split
    · exact h
    · exact out_layout l k _ (grow_length _ _ _ _ _ hl (places_length l bs 0 hl)) (out_grow hl h)
theorem longs_out (l : List It) : Out l (longs l) := by
  refine out_layout l _ _ (by simp) (fun i x hx hb => ?_)
  rw [List.getElem?_replicate] at hb
  split at hb <;> simp at hb
/-- A branch is long just where it would not reach. -/
theorem long_iff {l : List It} {i t : Nat} {x : It} (hx : l[i]? = some x) (hk : x.kind = 2) (ht : find x.label l = some t) : (longs l)[i]? = some true ↔ Far ((pl l (longs l) t : Int) - pl l (longs l) i) := by
  have hi : i < l.length := (List.getElem?_eq_some_iff.1 hx).1
  obtain ⟨hfix, hlen⟩ := longs_fix l
  refine ⟨fun h => (longs_out l i x hx h).2 t ht, fun h => ?_⟩
  obtain ⟨b, hb⟩ : ∃ b, (longs l)[i]? = some b := ⟨_, List.getElem?_eq_getElem (by omega)⟩
  have hq := places_get l (longs l) 0 i hlen hi
  have hg := grow_get l (places0 l) l (longs l) (places0 l) i x b _ hx hb hq
  rw [hfix, hb] at hg
  injection hg with hg
  rw [hb]
  cases b with
  | true => rfl
  | false =>
    exfalso
    unfold stretch places0 at hg
    rw [far_eq hlen ht] at hg
    have h' : (pl l (longs l) t : Int) - (total (l.take i) ((longs l).take i) 0 : Nat) < -512 ∨ 511 < (pl l (longs l) t : Int) - (total (l.take i) ((longs l).take i) 0 : Nat) := h
    rcases h' with h' | h' <;> simp [hk, h'] at hg
end As
end Go.Proofs.Ytbcpflogkniojaa
/- Assembly: what holds of items that may be; the words of a branch. -/
namespace Go.Proofs.Ytbcpflogkniojaa
open Go.RowKit
set_option linter.unusedVariables false
set_option linter.unusedSimpArgs false
namespace As
theorem find_none (k : Int) : ∀ (l : List It), find k l = none ↔ ∀ y ∈ l, isLabel y k = false
  | [] => by simp [find]
  | x :: l => by
    unfold find
    split
    · rename_i h; simp [h]
    · rename_i h
      simp only [Option.map_eq_none_iff, find_none k l, List.mem_cons, forall_eq_or_imp]
      simp [h]
theorem errA_zero : ∀ (l pre : List It), errA pre l = 0 → (∀ x ∈ l, may x = true) ∧ ∀ (i : Nat) (x : It), l[i]? = some x → x.kind = 1 → find x.label (pre ++ l.take i) = none
  | [], pre, _ => ⟨by simp, by simp⟩
  | y :: l, pre, h => by
    unfold errA at h
    by_cases h1 : may y = false
    · rw [if_pos h1] at h; simp at h
    · rw [if_neg h1] at h
      by_cases h2 : y.kind = 1 ∧ (find y.label pre).isSome = true
      · rw [if_pos h2] at h; simp at h
      · rw [if_neg h2] at h
        obtain ⟨g1, g2⟩ := errA_zero l (pre ++ [y]) h
        refine ⟨fun x hx => ?_, fun i x hx hk => ?_⟩
        · rcases List.mem_cons.1 hx with rfl | hx
          · simpa using h1
          · exact g1 x hx
        · cases i with
          | zero =>
            simp at hx
            subst hx
            simp only [List.take_zero, List.append_nil]
            cases hf : find y.label pre with
            | none => rfl
            | some t => exact absurd ⟨hk, by rw [hf]; rfl⟩ h2
          | succ i =>
            have := g2 i x (by simpa using hx) hk
            simpa using this
theorem errN_zero (all : List It) : ∀ (l : List It), errN all l = 0 → ∀ x ∈ l, names x = true → ∃ t, find x.label all = some t
  | [], _ => by simp
  | y :: l, h => by
    unfold errN at h
    by_cases h1 : names y = true ∧ find y.label all = none
    · rw [if_pos h1] at h; simp at h
    · rw [if_neg h1] at h
      intro x hx hn
      rcases List.mem_cons.1 hx with rfl | hx
      · cases hf : find x.label all with
        | none => exact absurd ⟨hn, hf⟩ h1
        | some t => exact ⟨t, rfl⟩
      · exact errN_zero all l h x hx hn
structure Good (l : List It) : Prop where
  len : l.length ≤ 65536
  may : ∀ x ∈ l, may x = true
  once : ∀ (i j : Nat) (x y : It), l[i]? = some x → l[j]? = some y → x.kind = 1 → y.kind = 1 → x.label = y.label → i = j
  has : ∀ x ∈ l, names x = true → ∃ t, find x.label l = some t
theorem good_of {l : List It} (h : err l = 0) : Good l := by
  unfold err at h
  by_cases h1 : 65536 < l.length
  · rw [if_pos h1] at h; simp at h
  · rw [if_neg h1] at h
    by_cases h2 : errA [] l = 0
    · simp only [h2, ne_eq, not_true_eq_false, if_false] at h
      obtain ⟨g1, g2⟩ := errA_zero l [] h2
      refine ⟨by omega, g1, fun i j x y hx hy hkx hky hl => ?_, errN_zero l l h⟩
      have key : ∀ (i j : Nat) (x y : It), l[i]? = some x → l[j]? = some y → x.kind = 1 → y.kind = 1 → x.label = y.label → ¬ i < j := by
        intro i j x y hx hy hkx hky hl hij
        have h3 := g2 j y hy hky
        rw [List.nil_append, find_none] at h3
        have hm : x ∈ l.take j := by
          refine List.mem_iff_getElem?.2 ⟨i, ?_⟩
          rw [List.getElem?_take, if_pos hij]
          exact hx
        have := h3 x hm
        simp [isLabel, hkx, hl] at this
      have a := key i j x y hx hy hkx hky hl
      have b := key j i y x hy hx hky hkx hl.symm
      omega
    · rw [if_pos h2] at h; exact absurd h h2
theorem not_bad_n {op a b c n m : Int} (h : ¬ Rs.Bad op a b c m) (h1 : Rs.least op ≤ n) (h2 : n ≤ Rs.most op) : ¬ Rs.Bad op a b c n := by
  unfold Rs.Bad at *
  simp only [not_or, Bool.not_eq_false, Int.not_lt] at h ⊢
  obtain ⟨a1, a2, a3, a4, a5, a6, a7, a8⟩ := h
  exact ⟨a1, a2, a3, a4, a5, a6, h1, h2⟩
theorem encOk_not_bad {x : It} (h : encOk x = true) : ¬ Rs.Bad x.op x.a x.b x.c x.n := by
  have h1 := of_decide_eq_true h
  intro hb
  rw [show Rs.encE _ _ _ _ _ = 200 from if_pos hb] at h1
  exact absurd h1 (by decide)
theorem pl_le {l : List It} (bs : List Bool) {i : Nat} (h : l.length ≤ 65536) : pl l bs i ≤ 262144 := by
  have := (total_le (l.take i) (bs.take i) 0).2
  have h2 : (l.take i).length ≤ l.length := by simp; omega
  unfold pl
  omega
/-- The words of item i. -/
theorem code_split {l : List It} (hg : Good l) {i : Nat} {x : It} (hx : l[i]? = some x) : ∃ (b : Bool) (pre post : List Int), (longs l)[i]? = some b ∧ code l = pre ++ words x b (pl l (longs l) i) (far l (places0 l) x (pl l (longs l) i)) ++ post ∧ pre.length = pl l (longs l) i := by
  have hi : i < l.length := (List.getElem?_eq_some_iff.1 hx).1
  have hlen := (longs_fix l).2
  obtain ⟨b, hb⟩ : ∃ b, (longs l)[i]? = some b := ⟨_, List.getElem?_eq_getElem (by omega)⟩
  have hp := places_get l (longs l) 0 i hlen hi
  obtain ⟨pre, post, h1, h2⟩ := write_split l (places0 l) l (longs l) 0 i x b _ hlen hx hb hp hg.may
  exact ⟨b, pre, post, hb, h1, by have h3 := h2; rw [Nat.add_zero] at h3; exact h3⟩
theorem may_2 {x : It} (h : may x = true) (hk : x.kind = 2) : ¬ Rs.Bad x.op x.a x.b x.c 0 ∧ 24 ≤ x.op ∧ x.op ≤ 27 ∧ x.n = 0 ∧ x.num = 0 := by
  unfold may at h
  rw [hk] at h
  simp at h
  obtain ⟨⟨⟨⟨h1, h2⟩, h3⟩, h4⟩, h5⟩ := h
  have := encOk_not_bad h1
  rw [h4] at this
  exact ⟨this, h2, h3, h4, h5⟩
theorem may_3 {x : It} (h : may x = true) (hk : x.kind = 3) : ¬ Rs.Bad x.op x.a x.b x.c 0 ∧ x.op = 28 ∧ x.n = 0 ∧ x.num = 0 := by
  unfold may at h
  rw [hk] at h
  simp at h
  obtain ⟨⟨⟨h1, h2⟩, h3⟩, h4⟩ := h
  have := encOk_not_bad h1
  rw [h3] at this
  exact ⟨this, h2, h3, h4⟩
theorem opposite_range (op : Int) : 24 ≤ opposite op ∧ opposite op ≤ 27 := by
  unfold opposite
  repeat' split
  all_goals omega
theorem form_45 {op : Int} (h1 : 24 ≤ op) (h2 : op ≤ 28) : Rs.form op = 4 ∨ Rs.form op = 5 := by
  unfold Rs.form
  rw [if_neg (by omega), if_neg (by omega), if_neg (by omega), if_neg (by omega)]
  by_cases h : 24 ≤ op ∧ op ≤ 27
  · rw [if_pos h]; exact .inl rfl
  · rw [if_neg h, if_pos (by omega)]; exact .inr rfl
theorem c_zero {op a b c n : Int} (h : ¬ Rs.Bad op a b c n) (h1 : 24 ≤ op) (h2 : op ≤ 28) : c = 0 ∧ (op = 28 → b = 0) := by
  unfold Rs.Bad at h
  simp only [not_or, not_and, Int.not_lt] at h
  have hf := form_45 h1 h2
  refine ⟨?_, fun h28 => ?_⟩
  · have := h.2.2.2.2.2.1 (by omega)
    exact Decidable.byContradiction this
  · have : Rs.form op = 5 := by rw [h28]; rfl
    exact Decidable.byContradiction (h.2.2.2.2.1 (.inr (.inr this)))
theorem ends_br : ∀ k : Fin 4, Rs.least (24 + (k : Nat)) = -512 ∧ Rs.most (24 + (k : Nat)) = 511 := by decide +kernel
theorem ends_branch {op : Int} (h1 : 24 ≤ op) (h2 : op ≤ 27) : Rs.least op = -512 ∧ Rs.most op = 511 := by
  obtain ⟨k, hk, rfl⟩ : ∃ k : Nat, k < 4 ∧ op = 24 + (k : Nat) := ⟨(op - 24).toNat, by omega, by omega⟩
  exact ends_br ⟨k, hk⟩
theorem getD_split {pre ws post : List Int} {p j : Nat} (h : pre.length = p) (hj : j < ws.length) : (pre ++ ws ++ post).getD (p + j) 0 = ws.getD j 0 ∧ p + j < (pre ++ ws ++ post).length := by
  subst h
  refine ⟨?_, by simp; omega⟩
  rw [List.getD_eq_getElem?_getD, List.append_assoc, List.getElem?_append_right (by omega), List.getElem?_append_left (by omega), List.getD_eq_getElem?_getD]
  congr 2
  omega
/-- A jump; a branch that reaches. -/
theorem reach_short {l : List It} (hg : Good l) {i t : Nat} {x : It} (hx : l[i]? = some x) (ht : find x.label l = some t) (hk : x.kind = 3 ∨ (x.kind = 2 ∧ ¬ Far ((pl l (longs l) t : Int) - pl l (longs l) i))) :
    pl l (longs l) i < (code l).length ∧ (code l).getD (pl l (longs l) i) 0 = Rs.enc x.op x.a x.b 0 ((pl l (longs l) t : Int) - pl l (longs l) i) ∧ ¬ Rs.Bad x.op x.a x.b 0 ((pl l (longs l) t : Int) - pl l (longs l) i) := by
  obtain ⟨b, pre, post, hb, hc, hpre⟩ := code_split hg hx
  have hm := hg.may x (List.mem_of_getElem? hx)
  have hlen := (longs_fix l).2
  have hfar := far_eq (l := l) (bs := longs l) (x := x) hlen ht (pl l (longs l) i)
  have hr1 := pl_le (i := i) (longs l) hg.len
  have hr2 := pl_le (i := t) (longs l) hg.len
  have hnb : ¬ Rs.Bad x.op x.a x.b 0 ((pl l (longs l) t : Int) - pl l (longs l) i) ∧ x.c = 0 := by
    rcases hk with hk | ⟨hk, hf⟩
    · obtain ⟨h1, h2, h3, h4⟩ := may_3 hm hk
      have hc0 := (c_zero h1 (by omega) (by omega)).1
      rw [hc0] at h1
      refine ⟨not_bad_n h1 ?_ ?_, hc0⟩
      · rw [h2, show Rs.least 28 = -1048576 by decide]; omega
      · rw [h2, show Rs.most 28 = 1048575 by decide]; omega
    · obtain ⟨h1, h2, h3, h4⟩ := may_2 hm hk
      have hc0 := (c_zero h1 (by omega) (by omega)).1
      rw [hc0] at h1
      obtain ⟨e1, e2⟩ := ends_branch h2 h3
      unfold Far at hf
      exact ⟨not_bad_n h1 (by rw [e1]; omega) (by rw [e2]; omega), hc0⟩
  have hw : words x b (pl l (longs l) i) (far l (places0 l) x (pl l (longs l) i)) = [Rs.enc x.op x.a x.b 0 ((pl l (longs l) t : Int) - pl l (longs l) i)] := by
    unfold places0
    rw [hfar]
    unfold words
    have he : Rs.encW x.op x.a x.b x.c ((pl l (longs l) t : Int) - pl l (longs l) i) = Rs.enc x.op x.a x.b 0 ((pl l (longs l) t : Int) - pl l (longs l) i) := by
      rw [hnb.2]; exact if_neg hnb.1
    rcases hk with hk | ⟨hk, hf⟩
    · rw [hk]; simp [he]
    · have hbf : b = false := by
        cases b with
        | false => rfl
        | true => exact absurd ((long_iff hx hk ht).1 hb) hf
      rw [hk, hbf]; simp [he]
  rw [hw] at hc
  have := getD_split (ws := [Rs.enc x.op x.a x.b 0 ((pl l (longs l) t : Int) - pl l (longs l) i)]) (post := post) (j := 0) hpre (by simp)
  rw [← hc] at this
  exact ⟨by simpa using this.2, by simpa using this.1, hnb.1⟩
/-- A branch that does not reach. -/
theorem reach_long {l : List It} (hg : Good l) {i t : Nat} {x : It} (hx : l[i]? = some x) (ht : find x.label l = some t) (hk : x.kind = 2) (hf : Far ((pl l (longs l) t : Int) - pl l (longs l) i)) :
    pl l (longs l) i + 1 < (code l).length ∧ (code l).getD (pl l (longs l) i) 0 = Rs.enc (opposite x.op) x.a x.b 0 2 ∧ ¬ Rs.Bad (opposite x.op) x.a x.b 0 2 ∧
    (code l).getD (pl l (longs l) i + 1) 0 = Rs.enc 28 0 0 0 ((pl l (longs l) t : Int) - pl l (longs l) i - 1) ∧ ¬ Rs.Bad 28 0 0 0 ((pl l (longs l) t : Int) - pl l (longs l) i - 1) := by
  obtain ⟨b, pre, post, hb, hc, hpre⟩ := code_split hg hx
  have hm := hg.may x (List.mem_of_getElem? hx)
  have hlen := (longs_fix l).2
  have hfar := far_eq (l := l) (bs := longs l) (x := x) hlen ht (pl l (longs l) i)
  have hr1 := pl_le (i := i) (longs l) hg.len
  have hr2 := pl_le (i := t) (longs l) hg.len
  obtain ⟨h1, h2, h3, h4⟩ := may_2 hm hk
  have hc0 := (c_zero h1 (by omega) (by omega)).1
  rw [hc0] at h1
  have hb1 : ¬ Rs.Bad (opposite x.op) x.a x.b 0 2 := by
    have ho := opposite_range x.op
    obtain ⟨e1, e2⟩ := ends_branch ho.1 ho.2
    have hform : Rs.form (opposite x.op) = Rs.form x.op := by
      have f4 : ∀ op : Int, 24 ≤ op → op ≤ 27 → Rs.form op = 4 := by
        intro op g1 g2
        unfold Rs.form
        rw [if_neg (by omega), if_neg (by omega), if_neg (by omega), if_neg (by omega), if_pos (by omega)]
      rw [f4 _ ho.1 ho.2, f4 _ h2 h3]
    unfold Rs.Bad at h1 ⊢
    rw [hform, e1, e2]
    simp only [not_or, Bool.not_eq_false, Int.not_lt] at h1 ⊢
    obtain ⟨a1, a2, a3, a4, a5, a6, a7, a8⟩ := h1
    exact ⟨a1, a2, a3, a4, a5, a6, by omega, by omega⟩
  have hb2 : ¬ Rs.Bad 28 0 0 0 ((pl l (longs l) t : Int) - pl l (longs l) i - 1) := by
    refine not_bad_n (m := 0) (by decide +kernel) ?_ ?_
    · rw [show Rs.least 28 = -1048576 by decide]; omega
    · rw [show Rs.most 28 = 1048575 by decide]; omega
  have hbt : b = true := by
    have := (long_iff hx hk ht).2 hf
    rw [hb] at this
    injection this
  have hw : words x b (pl l (longs l) i) (far l (places0 l) x (pl l (longs l) i)) = [Rs.enc (opposite x.op) x.a x.b 0 2, Rs.enc 28 0 0 0 ((pl l (longs l) t : Int) - pl l (longs l) i - 1)] := by
    unfold places0
    rw [hfar, hbt]
    unfold words
    rw [hk]
    simp only [if_true]
    rw [show Rs.encW (opposite x.op) x.a x.b 0 2 = _ from if_neg hb1, show Rs.encW 28 0 0 0 ((pl l (longs l) t : Int) - pl l (longs l) i - 1) = _ from if_neg hb2]
    simp
  rw [hw] at hc
  have g0 := getD_split (ws := [Rs.enc (opposite x.op) x.a x.b 0 2, Rs.enc 28 0 0 0 ((pl l (longs l) t : Int) - pl l (longs l) i - 1)]) (post := post) (j := 0) hpre (by simp)
  have g1 := getD_split (ws := [Rs.enc (opposite x.op) x.a x.b 0 2, Rs.enc 28 0 0 0 ((pl l (longs l) t : Int) - pl l (longs l) i - 1)]) (post := post) (j := 1) hpre (by simp)
  rw [← hc] at g0 g1
  exact ⟨g1.2, by simpa using g0.1, hb1, by simpa using g1.1, hb2⟩
end As
end Go.Proofs.Ytbcpflogkniojaa
/- The small functions of package asm. -/
namespace Go.Proofs.Ytbcpflogkniojaa
open Go.RowKit
set_option linter.unusedVariables false
set_option linter.unusedSimpArgs false
set_option maxHeartbeats 4000000 in
theorem opposite_any (op : Int) (w : World) : Calls Try.prog 33 #[.int .i64 op] w fun e w' => e = .returned (.int .i64 (As.opposite op)) ∧ w = w' := by
  rcases (by omega : op = 24 ∨ op = 25 ∨ op = 26 ∨ (op ≠ 24 ∧ op ≠ 25 ∧ op ≠ 26)) with rfl | rfl | rfl | ⟨h1, h2, h3⟩
  · go_enter Try.func33, Try.ntmps33
    go_wp2
    go_ret
    exact ⟨rfl, rfl⟩
  · go_enter Try.func33, Try.ntmps33
    go_wp2
    go_ret
    exact ⟨rfl, rfl⟩
  · go_enter Try.func33, Try.ntmps33
    go_wp2
    go_ret
    exact ⟨rfl, rfl⟩
  · have b1 : (op == 24) = false := by rw [beq_eq_false_iff_ne]; exact h1
    have b2 : (op == 25) = false := by rw [beq_eq_false_iff_ne]; exact h2
    have b3 : (op == 26) = false := by rw [beq_eq_false_iff_ne]; exact h3
    have hr : Hid (As.opposite op = 26) := by unfold Hid As.opposite; rw [if_neg h1, if_neg h2, if_neg h3]
    go_enter Try.func33, Try.ntmps33
    go_wp2
    go_ret
    exact ⟨by rw [hr.out]; rfl, rfl⟩
set_option maxHeartbeats 4000000 in
theorem pieces_any (n : Int) (w : World) : Calls Try.prog 35 #[.int .i64 n] w fun e w' => e = .returned (.int .i64 (As.pieces n)) ∧ w = w' := by
  obtain ⟨p, hp⟩ : ∃ p, Hid (As.pieces n = p) := ⟨_, rfl⟩
  rw [hp.out]
  have H : Hid ((p = 1 ∧ -32768 ≤ n ∧ n ≤ 32767) ∨ (p = 2 ∧ ¬ (-32768 ≤ n ∧ n ≤ 32767) ∧ -2147483648 ≤ n ∧ n ≤ 2147483647) ∨ (p = 3 ∧ ¬ (-2147483648 ≤ n ∧ n ≤ 2147483647) ∧ -140737488355328 ≤ n ∧ n ≤ 140737488355327) ∨ (p = 4 ∧ ¬ (-140737488355328 ≤ n ∧ n ≤ 140737488355327))) := by
    unfold Hid
    rw [← hp.out]
    unfold As.pieces
    repeat' split
    all_goals omega
  clear hp
  go_enter Try.func35, Try.ntmps35
  go_wp2_with fail
  go_loopg [3] 3 (fun g i wr => ∃ k : Nat, 1 ≤ k ∧ k ≤ p ∧ g = 4 - k ∧ i = .int .i64 k ∧ w = wr)
  case atStart => exact ⟨1, by omega, by have := H.out; omega, rfl, rfl, rfl⟩
  case round =>
    obtain ⟨k, h1, h2, rfl, rfl, rfl⟩ := hrel
    have h4 : k ≤ 4 := by have := H.out; omega
    rcases (by omega : k = 1 ∨ k = 2 ∨ k = 3 ∨ k = 4) with rfl | rfl | rfl | rfl
    · by_cases hk : p = 1
      · have hn : -32768 ≤ n ∧ n ≤ 32767 := by have := H.out; omega
        have q1 : ¬ n < -32768 := by omega
        have q2 : ¬ 32767 < n := by omega
        subst hk
        go_wp2_with fail
        go_ret
        exact ⟨rfl, rfl⟩
      · rcases (by have := H.out; omega : n < -32768 ∨ (-32768 ≤ n ∧ 32767 < n)) with q1 | ⟨q1, q2⟩
        all_goals
          go_wp2_with fail
          go_roundg 2
          case measure => omega
          case rel => exact ⟨2, by omega, by omega, rfl, by go_num, rfl⟩
    · by_cases hk : p = 2
      · have hn : -2147483648 ≤ n ∧ n ≤ 2147483647 := by have := H.out; omega
        have q1 : ¬ n < -2147483648 := by omega
        have q2 : ¬ 2147483647 < n := by omega
        subst hk
        go_wp2_with fail
        go_ret
        exact ⟨rfl, rfl⟩
      · rcases (by have := H.out; omega : n < -2147483648 ∨ (-2147483648 ≤ n ∧ 2147483647 < n)) with q1 | ⟨q1, q2⟩
        all_goals
          go_wp2_with fail
          go_roundg 1
          case measure => omega
          case rel => exact ⟨3, by omega, by omega, rfl, by go_num, rfl⟩
    · by_cases hk : p = 3
      · have hn : -140737488355328 ≤ n ∧ n ≤ 140737488355327 := by have := H.out; omega
        have q1 : ¬ n < -140737488355328 := by omega
        have q2 : ¬ 140737488355327 < n := by omega
        subst hk
        go_wp2_with fail
        go_ret
        exact ⟨rfl, rfl⟩
      · rcases (by have := H.out; omega : n < -140737488355328 ∨ (-140737488355328 ≤ n ∧ 140737488355327 < n)) with q1 | ⟨q1, q2⟩
        all_goals
          go_wp2_with fail
          go_roundg 0
          case measure => omega
          case rel => exact ⟨4, by omega, by omega, rfl, by go_num, rfl⟩
    · have hk : p = 4 := by have := H.out; omega
      subst hk
      go_wp2_with fail
      go_ret
      exact ⟨rfl, rfl⟩
end Go.Proofs.Ytbcpflogkniojaa
/- Rows that are made. -/
namespace Go.Proofs.Ytbcpflogkniojaa
open Go.RowKit
set_option linter.unusedVariables false
set_option linter.unusedSimpArgs false
theorem made_one21 (v : Value) (q : Nat) : madeCells #[v] q = (List.replicate q v).toArray := by
  apply Array.ext
  · simp [size_madeCells]
  · intro i h1 h2
    simp [madeCells, Nat.mod_one]
theorem infoI21 : (Try.prog.info? 3).map (fun i => (i.zero, i.size, i.bytes)) = some (some (.int .i64 0), 1, 8) := by kernel_rfl
theorem infoBool21 : (Try.prog.info? 4).map (fun i => (i.zero, i.size, i.bytes)) = some (some (.bool false), 1, 1) := by kernel_rfl
theorem make_ints21 (q : Nat) (h : q ≤ 1048576) (w : World) : (Instr.makeSlice 25 (.int .i64 q) (.int .i64 q)).run Try.prog w = .ok (.slice (some ⟨w.heap.size, 0, none⟩) q q) (w.alloc (.cells (madeCells #[.int .i64 0] q) 3)) := by
  obtain ⟨i, hi, hz, hs, hb⟩ := info_parts infoI21
  have := run_make (P := Try.prog) w _ _ i _ Try.underlying25 hi hz .i64 .i64 q q (by omega) (Int.le_refl _) (by rw [hb]; omega) (by omega)
  rw [hs] at this
  simp only [Int.toNat_natCast, Nat.mul_one] at this
  exact this
theorem make_bools21 (q : Nat) (h : q ≤ 1048576) (w : World) : (Instr.makeSlice 53 (.int .i64 q) (.int .i64 q)).run Try.prog w = .ok (.slice (some ⟨w.heap.size, 0, none⟩) q q) (w.alloc (.cells (madeCells #[.bool false] q) 4)) := by
  obtain ⟨i, hi, hz, hs, hb⟩ := info_parts infoBool21
  have := run_make (P := Try.prog) w _ _ i _ Try.underlying53 hi hz .i64 .i64 q q (by omega) (Int.le_refl _) (by rw [hb]; omega) (by omega)
  rw [hs] at this
  simp only [Int.toNat_natCast, Nat.mul_one] at this
  exact this
theorem results_cell21 {P : Program} {fn : Func} {p : Tmp} {ty : TypeId} (h : fn.results = #[.cell p ty]) (tmps : Array Value) (w : World) (g : Nat) (t : TypeId) (cs : Array Value) (fr : Nat × Nat) (d : TypeDesc)
    (hp : tmps.getD p undef = .pointer (some ⟨g, 0, none⟩)) (hg : w.heap[g]? = some (.cells cs t fr)) (hu : P.underlying ty = some d) (hd : d.isRow = true) (hi : (P.info? ty).map (·.size) = some cs.size) :
    (results fn tmps).run P w = .ok (.agg cs) w := by
  cases d with
  | struct f => exact results_cell_row h tmps w g t cs fr _ hp hg hu rfl hi
  | array a b => exact results_cell_row h tmps w g t cs fr _ hp hg hu rfl hi
  | _ => simp [TypeDesc.isRow] at hd
end Go.Proofs.Ytbcpflogkniojaa
/- Assembly: items behind others. -/
namespace Go.Proofs.Ytbcpflogkniojaa
open Go.RowKit
set_option linter.unusedVariables false
set_option linter.unusedSimpArgs false
namespace As
/-- Items that lead nowhere, and to which nothing leads. -/
def Plain (m : List It) : Prop := ∀ x ∈ m, x.kind = 0 ∨ x.kind = 4
theorem find_append {m : List It} (hm : Plain m) (k : Int) : ∀ l : List It, find k (l ++ m) = find k l
  | [] => by
    rw [List.nil_append, show find k [] = none from rfl, find_none]
    intro y hy
    have := hm y hy
    unfold isLabel
    rcases this with h | h <;> rw [h] <;> rfl
  | x :: l => by
    simp only [List.cons_append, find, find_append hm k l]
theorem places_append : ∀ (l m : List It) (bs cs : List Bool) (k : Nat), bs.length = l.length → places (l ++ m) (bs ++ cs) k = places l bs k ++ places m cs (total l bs k)
  | [], m, bs, cs, k, h => by have : bs = [] := List.eq_nil_of_length_eq_zero (by simpa using h); subst this; simp [places, total]
  | x :: l, m, b :: bs, cs, k, h => by
    simp only [List.cons_append, places, total, places_append l m bs cs _ (by simpa using h)]
  | x :: l, m, [], cs, k, h => by simp at h
theorem far_append {l m : List It} (hm : Plain m) {ps qs : List Nat} (h : ps.length = l.length) (x : It) (p : Nat) : far (l ++ m) (ps ++ qs) x p = far l ps x p := by
  unfold far
  rw [find_append hm]
  cases hf : find x.label l with
  | none => rfl
  | some t =>
    rw [Option.bind_some, Option.bind_some, List.getElem?_append_left (by have := find_lt hf; omega)]
theorem grow_app (all : List It) (ps : List Nat) : ∀ (l m : List It) (bs cs : List Bool) (qs rs : List Nat), bs.length = l.length → qs.length = l.length → grow all ps (l ++ m) (bs ++ cs) (qs ++ rs) = grow all ps l bs qs ++ grow all ps m cs rs
  | [], m, bs, cs, qs, rs, h1, h2 => by
    have e1 : bs = [] := List.eq_nil_of_length_eq_zero (by simpa using h1)
    have e2 : qs = [] := List.eq_nil_of_length_eq_zero (by simpa using h2)
    subst e1 e2
    simp [grow]
  | x :: l, m, b :: bs, cs, q :: qs, rs, h1, h2 => by
    simp only [List.cons_append, grow, grow_app all ps l m bs cs qs rs (by simpa using h1) (by simpa using h2)]
  | x :: l, m, [], _, _, _, h1, _ => by simp at h1
  | x :: l, m, _ :: _, _, [], _, _, h2 => by simp at h2
theorem grow_far {all all' : List It} {ps ps' : List Nat} (h : ∀ x p, far all ps x p = far all' ps' x p) : ∀ (l : List It) (bs : List Bool) (qs : List Nat), grow all ps l bs qs = grow all' ps' l bs qs
  | [], _, _ => by simp [grow]
  | x :: l, [], _ => by simp [grow]
  | x :: l, _ :: _, [] => by simp [grow]
  | x :: l, b :: bs, q :: qs => by simp only [grow, stretch, h, grow_far h l bs qs]
theorem grow_plain (all : List It) (ps : List Nat) : ∀ (m : List It) (qs : List Nat), Plain m → qs.length = m.length → grow all ps m (List.replicate m.length false) qs = List.replicate m.length false
  | [], _, _, _ => by simp [grow]
  | x :: m, q :: qs, hm, h => by
    have hx := hm x (by simp)
    have hk : ¬ x.kind = 2 := by omega
    simp only [List.length_cons, List.replicate_succ, grow, stretch, hk, decide_false, Bool.false_or, Bool.false_and]
    rw [grow_plain all ps m qs (fun y hy => hm y (by simp [hy])) (by simpa using h)]
  | x :: m, [], _, h => by simp at h
theorem layout_append {m : List It} (hm : Plain m) (l : List It) : ∀ (k : Nat) (bs : List Bool), bs.length = l.length → layout (l ++ m) k (bs ++ List.replicate m.length false) = layout l k bs ++ List.replicate m.length false
  | 0, bs, _ => rfl
  | k + 1, bs, h => by
    have hp := places_length l bs 0 h
    have hq := places_length m (List.replicate m.length false) (total l bs 0) (by simp)
    have hg : grow (l ++ m) (places (l ++ m) (bs ++ List.replicate m.length false) 0) (l ++ m) (bs ++ List.replicate m.length false) (places (l ++ m) (bs ++ List.replicate m.length false) 0) = grow l (places l bs 0) l bs (places l bs 0) ++ List.replicate m.length false := by
      rw [places_append l m bs _ 0 h, grow_app _ _ l m bs _ _ _ h hp, grow_plain _ _ m _ hm hq, grow_far (fun x p => far_append hm hp x p)]
    unfold layout
    rw [hg]
    by_cases he : grow l (places l bs 0) l bs (places l bs 0) = bs
    · rw [if_pos he, if_pos (by rw [he])]
    · rw [if_neg he, if_neg (fun e => he (List.append_cancel_right e))]
      exact layout_append hm l k _ (grow_length _ _ _ _ _ h hp)
/-- More rounds change nothing. -/
theorem layout_more (l : List It) : ∀ (k : Nat) (bs : List Bool), grow l (places l (layout l k bs) 0) l (layout l k bs) (places l (layout l k bs) 0) = layout l k bs → ∀ j, layout l (k + j) bs = layout l k bs
  | 0, bs, h, j => by
    have h' : grow l (places l bs 0) l bs (places l bs 0) = bs := h
    cases j with
    | zero => rfl
    | succ j =>
      show layout l (0 + j + 1) bs = bs
      unfold layout
      rw [if_pos h']
  | k + 1, bs, h, j => by
    rw [show k + 1 + j = k + j + 1 by omega]
    unfold layout at h ⊢
    by_cases he : grow l (places l bs 0) l bs (places l bs 0) = bs
    · rw [if_pos he, if_pos he]
    · rw [if_neg he] at h
      rw [if_neg he, if_neg he]
      exact layout_more l k _ h j
theorem longs_append {l m : List It} (hm : Plain m) : longs (l ++ m) = longs l ++ List.replicate m.length false := by
  have h1 : longs (l ++ m) = layout (l ++ m) (l.length + 1 + m.length) (List.replicate l.length false ++ List.replicate m.length false) := by
    unfold longs
    rw [List.length_append, ← List.replicate_append_replicate]
    congr 1
    omega
  rw [h1, layout_append hm l _ _ (by simp), layout_more l _ _ (longs_fix l).1]
  rfl
theorem places0_append {l m : List It} (hm : Plain m) : places0 (l ++ m) = places0 l ++ places m (List.replicate m.length false) (total l (longs l) 0) := by
  unfold places0
  rw [longs_append hm, places_append _ _ _ _ _ (longs_fix l).2]
theorem longs_plain {m : List It} (hm : Plain m) : longs m = List.replicate m.length false := by
  have := longs_append (l := []) hm
  simpa [longs, layout, grow] using this
theorem places_shift : ∀ (m : List It) (bs : List Bool) (k : Nat), places m bs k = (places m bs 0).map (· + k)
  | [], bs, k => by simp [places]
  | x :: m, [], k => by simp [places]
  | x :: m, b :: bs, k => by
    simp only [places, List.map_cons]
    rw [places_shift m bs (k + size x b), places_shift m bs (0 + size x b)]
    simp only [List.map_map, Nat.zero_add]
    congr 1
    exact List.map_congr_left (fun y _ => by simp; omega)
/-- The places of what stands behind. -/
theorem places0_parts {l m : List It} (hl : Good l) (hm : Plain m) : places0 (l ++ m) = places0 l ++ (places0 m).map (· + (code l).length) := by
  have hc := write_length l (places0 l) l (longs l) 0 (longs_fix l).2 hl.may
  rw [Nat.add_zero] at hc
  rw [places0_append hm, places_shift, show total l (longs l) 0 = (code l).length from hc.symm]
  unfold places0
  rw [longs_plain hm]
theorem write_app (all : List It) (ps : List Nat) : ∀ (l m : List It) (bs cs : List Bool) (qs rs : List Nat), bs.length = l.length → qs.length = l.length → write all ps (l ++ m) (bs ++ cs) (qs ++ rs) = write all ps l bs qs ++ write all ps m cs rs
  | [], m, bs, cs, qs, rs, h1, h2 => by
    have e1 : bs = [] := List.eq_nil_of_length_eq_zero (by simpa using h1)
    have e2 : qs = [] := List.eq_nil_of_length_eq_zero (by simpa using h2)
    subst e1 e2
    simp [write]
  | x :: l, m, b :: bs, cs, q :: qs, rs, h1, h2 => by
    simp only [List.cons_append, write, write_app all ps l m bs cs qs rs (by simpa using h1) (by simpa using h2), List.append_assoc]
  | x :: l, m, [], _, _, _, h1, _ => by simp at h1
  | x :: l, m, _ :: _, _, [], _, _, h2 => by simp at h2
theorem write_far {all all' : List It} {ps ps' : List Nat} (h : ∀ x p, far all ps x p = far all' ps' x p) : ∀ (l : List It) (bs : List Bool) (qs : List Nat), write all ps l bs qs = write all' ps' l bs qs
  | [], _, _ => by simp [write]
  | x :: l, [], _ => by simp [write]
  | x :: l, _ :: _, [] => by simp [write]
  | x :: l, b :: bs, q :: qs => by simp only [write, h, write_far h l bs qs]
/-- What is plain is written the same, wherever it stands. -/
theorem write_plain (all all' : List It) (ps ps' : List Nat) : ∀ (m : List It) (bs : List Bool) (qs rs : List Nat), Plain m → bs.length = m.length → qs.length = m.length → rs.length = m.length → write all ps m bs qs = write all' ps' m bs rs
  | [], _, _, _, _, _, _, _ => by simp [write]
  | x :: m, b :: bs, q :: qs, r :: rs, hm, h1, h2, h3 => by
    have hx := hm x (by simp)
    have hw : ∀ (p p' : Nat) (f f' : Int), words x b p f = words x b p' f' := by
      intro p p' f f'
      unfold words
      rcases hx with hx | hx <;> rw [hx] <;> simp
    simp only [write]
    rw [hw q r _ (far all' ps' x r), write_plain all all' ps ps' m bs qs rs (fun y hy => hm y (by simp [hy])) (by simpa using h1) (by simpa using h2) (by simpa using h3)]
  | x :: m, [], _, _, _, h, _, _ => by simp at h
  | x :: m, _ :: _, [], _, _, _, h, _ => by simp at h
  | x :: m, _ :: _, _ :: _, [], _, _, _, h => by simp at h
theorem code_parts {l m : List It} (hm : Plain m) : code (l ++ m) = code l ++ code m := by
  have hp := places_length l (longs l) 0 (longs_fix l).2
  have hq := places_length m (List.replicate m.length false) (total l (longs l) 0) (by simp)
  unfold code
  rw [longs_append hm, places0_append hm, write_app _ _ l m _ _ _ _ (longs_fix l).2 (show (places0 l).length = l.length from hp)]
  rw [write_far (fun x p => far_append hm (show (places0 l).length = l.length from hp) x p) l]
  rw [longs_plain hm]
  congr 1
  exact write_plain _ _ _ _ m _ _ _ hm (by simp) hq (by unfold places0; rw [longs_plain hm]; exact places_length m _ 0 (by simp))
/-- What is wrong of both together. -/
theorem errA_append : ∀ (l pre m : List It), errA pre l = 0 → errA pre (l ++ m) = errA (pre ++ l) m
  | [], pre, m, _ => by simp
  | x :: l, pre, m, h => by
    unfold errA at h
    by_cases h1 : may x = false
    · rw [if_pos h1] at h; simp at h
    · rw [if_neg h1] at h
      by_cases h2 : x.kind = 1 ∧ (find x.label pre).isSome = true
      · rw [if_pos h2] at h; simp at h
      · rw [if_neg h2] at h
        rw [List.cons_append, errA, if_neg h1, if_neg h2, errA_append l (pre ++ [x]) m h]
        simp
theorem errA_plain : ∀ (m pre : List It), Plain m → (errA pre m = 0 ∨ errA pre m = 210) ∧ ∀ pre', errA pre m = errA pre' m
  | [], _, _ => ⟨.inl rfl, fun _ => rfl⟩
  | x :: m, pre, hm => by
    have hx := hm x (by simp)
    have hk : ∀ p : Prop, ¬ (x.kind = 1 ∧ p) := fun p h => by omega
    have ih := fun pre => errA_plain m pre (fun y hy => hm y (by simp [hy]))
    refine ⟨?_, fun pre' => ?_⟩
    · unfold errA
      by_cases h1 : may x = false
      · rw [if_pos h1]; exact .inr rfl
      · rw [if_neg h1, if_neg (hk _)]; exact (ih _).1
    · unfold errA
      by_cases h1 : may x = false
      · rw [if_pos h1, if_pos h1]
      · rw [if_neg h1, if_neg h1, if_neg (hk _), if_neg (hk _)]; exact (ih _).2 _
theorem errN_plain (all : List It) : ∀ m : List It, Plain m → errN all m = 0
  | [], _ => rfl
  | x :: m, hm => by
    have hx := hm x (by simp)
    have hn : names x = false := by unfold names; rcases hx with h | h <;> rw [h] <;> rfl
    unfold errN
    rw [if_neg (by rw [hn]; simp), errN_plain all m (fun y hy => hm y (by simp [hy]))]
theorem errN_append (all : List It) : ∀ (l m : List It), errN all l = 0 → errN all (l ++ m) = errN all m
  | [], m, _ => rfl
  | x :: l, m, h => by
    unfold errN at h
    by_cases h1 : names x = true ∧ find x.label all = none
    · rw [if_pos h1] at h; simp at h
    · rw [if_neg h1] at h
      rw [List.cons_append, errN, if_neg h1, errN_append all l m h]
theorem errN_find {all all' : List It} (h : ∀ k, find k all = find k all') : ∀ l : List It, errN all l = errN all' l
  | [] => rfl
  | x :: l => by unfold errN; rw [h, errN_find h l]
theorem err_parts {l m : List It} (hl : err l = 0) (hm : Plain m) (h1 : l.length ≤ 1000) (h2 : m.length ≤ 1000) : err (l ++ m) = err m := by
  have hA : errA [] l = 0 ∧ errN l l = 0 := by
    unfold err at hl
    rw [if_neg (by omega)] at hl
    by_cases h : errA [] l = 0
    · rw [if_neg (by simp [h])] at hl; exact ⟨h, hl⟩
    · rw [if_pos h] at hl; exact absurd hl h
  have e1 : errA [] (l ++ m) = errA [] m := by
    rw [errA_append l [] m hA.1]
    exact (errA_plain m _ hm).2 _
  have e2 : errN (l ++ m) (l ++ m) = errN m m := by
    rw [errN_append _ l m (by rw [errN_find (fun k => find_append hm k l)]; exact hA.2), errN_plain _ m hm, errN_plain _ m hm]
  unfold err
  rw [if_neg (show ¬ 65536 < (l ++ m).length by rw [List.length_append]; omega), if_neg (show ¬ 65536 < m.length by omega), e1, e2]
end As
end Go.Proofs.Ytbcpflogkniojaa
/- The assembler, plainly, item by item. -/
namespace Go.Proofs.Ytbcpflogkniojaa
open Go.RowKit
set_option linter.unusedVariables false
set_option linter.unusedSimpArgs false
namespace As
theorem drop_cons {l : List It} {k : Nat} {x : It} (hx : l[k]? = some x) : l.drop k = x :: l.drop (k + 1) ∧ l.take k ++ [x] = l.take (k + 1) := by
  have hk : k < l.length := (List.getElem?_eq_some_iff.1 hx).1
  have hb : l[k] = x := by rw [List.getElem?_eq_getElem hk] at hx; simpa using hx
  refine ⟨by rw [List.drop_eq_getElem_cons hk, hb], by rw [List.take_add_one, hx]; rfl⟩
theorem errA_step {l : List It} {k : Nat} {x : It} (hx : l[k]? = some x) : errA (l.take k) (l.drop k) = if may x = false then 210 else if x.kind = 1 ∧ (find x.label (l.take k)).isSome = true then 211 else errA (l.take (k + 1)) (l.drop (k + 1)) := by
  rw [(drop_cons hx).1, errA, (drop_cons hx).2]
theorem errN_step {all l : List It} {k : Nat} {x : It} (hx : l[k]? = some x) : errN all (l.drop k) = if names x = true ∧ find x.label all = none then 212 else errN all (l.drop (k + 1)) := by
  rw [(drop_cons hx).1, errN]
theorem err_A {l : List It} {z : Int} (h : l.length ≤ 65536) (he : errA [] l = z) (hz : z ≠ 0) : err l = z := by
  unfold err
  rw [if_neg (by omega), he, if_pos hz]
theorem err_N {l : List It} {z : Int} (h : l.length ≤ 65536) (he : errA [] l = 0) (hn : errN l l = z) : err l = z := by
  unfold err
  rw [if_neg (by omega), he, if_neg (by simp), hn]
theorem find_snoc (k : Int) (x : It) : ∀ p : List It, find k (p ++ [x]) = match find k p with
    | some t => some t
    | none => if isLabel x k = true then some p.length else none
  | [] => by simp [find]
  | y :: p => by
    simp only [List.cons_append, find]
    by_cases h : isLabel y k = true
    · rw [if_pos h, if_pos h]
    · rw [if_neg h, if_neg h, find_snoc k x p]
      cases hf : find k p with
      | some t => simp
      | none => by_cases h2 : isLabel x k = true <;> simp [h2]
/-- The words of the first items. -/
def cod (l : List It) (k : Nat) : List Int := write l (places0 l) (l.take k) ((longs l).take k) ((places0 l).take k)
theorem cod_zero (l : List It) : cod l 0 = [] := rfl
theorem places0_get {l : List It} {k : Nat} (h : k < l.length) : (places0 l)[k]? = some (pl l (longs l) k) := places_get l (longs l) 0 k (longs_fix l).2 h
theorem places0_length (l : List It) : (places0 l).length = l.length := places_length l (longs l) 0 (longs_fix l).2
theorem cod_succ {l : List It} {k : Nat} {x : It} {b : Bool} (hx : l[k]? = some x) (hb : (longs l)[k]? = some b) : cod l (k + 1) = cod l k ++ words x b (pl l (longs l) k) (far l (places0 l) x (pl l (longs l) k)) := by
  have hk : k < l.length := (List.getElem?_eq_some_iff.1 hx).1
  have h1 := (longs_fix l).2
  have h2 := places0_length l
  unfold cod
  rw [List.take_add_one, List.take_add_one, List.take_add_one, hx, hb, places0_get hk]
  simp only [Option.toList_some]
  rw [write_app _ _ _ _ _ _ _ _ (by simp; omega) (by simp; omega)]
  simp [write]
theorem cod_full (l : List It) : cod l l.length = code l := by
  have h1 := (longs_fix l).2
  have h2 := places0_length l
  unfold cod code
  rw [List.take_length, List.take_of_length_le (by omega), List.take_of_length_le (by omega)]
theorem write_len (all : List It) (ps : List Nat) : ∀ (l : List It) (bs : List Bool) (qs : List Nat), (∀ y ∈ l, may y = true) → (write all ps l bs qs).length ≤ 4 * l.length
  | [], _, _, _ => by simp [write]
  | x :: l, [], _, _ => by simp [write]
  | x :: l, b :: bs, [], _ => by simp [write]
  | x :: l, b :: bs, q :: qs, h => by
    have h1 := write_len all ps l bs qs (fun y hy => h y (by simp [hy]))
    have h2 := words_length (h x (by simp)) b q (far all ps x q)
    have h3 := size_le x b
    simp only [write, List.length_append, List.length_cons]
    omega
theorem cod_len {l : List It} (hm : ∀ y ∈ l, may y = true) (k : Nat) (h : l.length ≤ 65536) : (cod l k).length ≤ 262144 := by
  have := write_len l (places0 l) (l.take k) ((longs l).take k) ((places0 l).take k) (fun y hy => hm y (List.mem_of_mem_take hy))
  unfold cod
  simp at this
  omega
end As
end Go.Proofs.Ytbcpflogkniojaa
/- A slice of items that came in: its room. -/
namespace Go.Proofs.Ytbcpflogkniojaa
open Go.ChangeShapes Go.WideShapes Go.Deep Go.RowKit
set_option linter.unusedVariables false
set_option linter.unusedSimpArgs false
section
variable {H : Type} {enc : TypeId × Value → H} {w : World} {base : Nat} {spare : Nat → Bool} {held : Bool}
theorem open_items2 {r : Reach} {b0 : Nat} {v : Value} {d : DataW H} {ps : List MemPlace} (hval : Value.okWide Try.prog w r b0 22 v) (h : DataW.Trod enc Try.prog w base spare held 22 v d ps) :
    ∃ a cap l, v = .slice a l.length cap ∧ ISl w (.slice a l.length cap) l ∧ l.length ≤ 9223372036854775807 ∧ (∀ x ∈ l, -9223372036854775808 ≤ x.num ∧ x.num ≤ 9223372036854775807) ∧ l.length ≤ cap := by
  obtain ⟨a, cap, l, rfl, h1, h2, h3⟩ := open_items hval h
  refine ⟨a, cap, l, rfl, h1, h2, h3, ?_⟩
  obtain ⟨fuel, hf⟩ := h
  rcases open_slice Try.underlying22 hf with ⟨hcs, _⟩ | ⟨a', len', cap', m, n, D, Pl, hcs, _, hle, hmax, hm, _, hi⟩
  · simp [Value.cells] at hcs
    obtain ⟨rfl, h4, rfl⟩ := hcs
    simp [h4]
  · simp [Value.cells] at hcs
    obtain ⟨rfl, rfl, rfl⟩ := hcs
    exact hle
end
end Go.Proofs.Ytbcpflogkniojaa
