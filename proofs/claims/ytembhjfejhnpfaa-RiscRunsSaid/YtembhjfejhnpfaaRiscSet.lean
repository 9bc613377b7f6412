/- The machine's small methods. -/
import Derived.Test.YtembhjfejhnpfaaRiscSt
import Derived.Test.YtembhjfejhnpfaaFrame
import Derived.Deep.QuietTactic
import Derived.BigQuiet
import Derived.StillTailTactics
import Derived.Outline
namespace Go.Proofs.Ytembhjfejhnpfaa
open Go.RowKit
set_option linter.unusedSimpArgs false
set_option linter.unusedVariables false

/-- A region that draws: all but the last operations only read; the last ones stand in a forced order. -/
theorem wp_still_tl {P : Program} {id : Nat} {Q : Exit → Act → World → Prop} {a : Act} {w : World} {l : List Oper} (n : Nat) (hm : P.follows .mixedOrders = true) (hB : Region.lexTailB .any l.toArray n = true)
    (h : wpStill P l.toArray w.drew (fun a' => wpList P l.toArray Q (l.drop n) a' w.drew) (l.take n) a) : (Code.region id l.toArray true).wp P Q a w :=
  wp_region_still_tail n hm hB h
theorem grown_set (w : World) (g j : Nat) (v : Value) : w.grownBy (w.setCell ⟨g, j, none⟩ v) (some g) := ⟨rfl, rfl, rfl, by simp, fun k _ hk => heap_setCell_other w ⟨g, j, none⟩ k v (fun e => hk (by simp [e]))⟩
theorem MSt.hp {B : Bd} {g T : Nat} {w w' : World} {st : Int} {m : Rs.M} {mv ov : Value} (h : MSt B w g T st m mv ov) (he : w'.heap = w.heap) : MSt B w' g T st m mv ov := by
  have key : ∀ {e size : Nat} {v : Value} {n : Nat} {xs : List Value}, w.ownsRow B e size v n xs → w'.ownsRow B e size v n xs := by
    intro e size v n xs ho
    obtain ⟨h1, h2⟩ := ho
    refine ⟨h1, ?_⟩
    rcases h2 with h2 | ⟨g1, cap, cur, hv, hg, hh, r⟩
    · exact Or.inl h2
    · exact Or.inr ⟨g1, cap, cur, hv, hg, by rw [he]; exact hh, r⟩
  exact ⟨h.base, by rw [he]; exact h.blk, key h.mem, key h.out, h.ne1, h.ne2, h.ne3, h.ok, fun p hp => ⟨by rw [he]; exact (h.kept p hp).1, (h.kept p hp).2⟩⟩
def SetPost (B : Bd) (g T : Nat) (st : Int) (m' : Rs.M) (mv ov : Value) (w : World) (e : Ending) (w' : World) : Prop :=
  e = .returned (.tuple #[]) ∧ MSt B w' g T st m' mv ov ∧ w.grownBy w' (some g)
theorem set_any (B : Bd) (g : Nat) (st : Int) (m : Rs.M) (mv ov : Value) (r v : Int) (w : World) (h : MSt B w g 62 st m mv ov) (hr : 0 ≤ r ∧ r ≤ 31) (hv : Rs.InR v) :
    Calls Try.prog 28 #[.pointer (some ⟨g, 0, none⟩), .int .i64 r, .int .i64 v] w (SetPost B g 62 st (Rs.setReg m r v) mv ov w) := by
  by_cases h0 : r = 0
  · subst h0
    have hs : Hid (Rs.setReg m 0 v = m) := if_pos rfl
    rw [hs.out]
    have H := Lib.hid h
    clear h
    go_enter Try.func28, Try.ntmps28
    go_wp2
    go_end0
    exact ⟨rfl, H.out, ⟨rfl, rfl, rfl, Nat.le_refl _, fun _ _ _ => rfl⟩⟩
  · obtain ⟨i, rfl⟩ : ∃ i : Nat, r = i := ⟨r.toNat, by omega⟩
    have hs : Hid (Rs.setReg m i v = { m with regs := m.regs.set i v }) := by unfold Hid Rs.setReg; rw [if_neg h0, Int.toNat_natCast]
    rw [hs.out]
    have hi : i < 32 := by omega
    have hb0 : ((i : Int) != 0) = true := by rw [bne_iff_ne]; exact h0
    have c := h.cR hi
    have f := h.fz (5 + i)
    have hb := h.base
    have hlt := h.lt
    have H := Lib.hid h
    have HV := Lib.hid hv
    clear h hv h0 hr
    go_enter Try.func28, Try.ntmps28
    go_wp2
    go_end0
    exact ⟨rfl, H.out.setR hi HV.out, grown_set w g _ _⟩
theorem taken_any (op a b : Int) (w : World) (h : 24 ≤ op ∧ op ≤ 27) : Calls Try.prog 30 #[.int .i64 op, .int .i64 a, .int .i64 b] w fun e w' => e = .returned (.bool (Rs.takenB op a b)) ∧ w = w' := by
  have : op = 24 ∨ op = 25 ∨ op = 26 ∨ op = 27 := by omega
  rcases this with rfl | rfl | rfl | rfl
  all_goals
    go_enter Try.func30, Try.ntmps30
    go_wp2
    go_ret
    exact ⟨rfl, rfl⟩
def SimpPost (v : Int) (w : World) (e : Ending) (w' : World) : Prop := e = .returned (.int .i64 v) ∧ Below w.heap.size w w'
theorem simple_any (p : Value) (op ra rb rc n a b : Int) (w : World) (h : 15 ≤ op ∧ op ≤ 21) (hn : op = 18 ∨ op = 19 → 0 ≤ n ∧ n < 64) :
    Calls Try.prog 31 #[p, iv op ra rb rc n, .int .i64 a, .int .i64 b] w (SimpPost (Rs.simp op a b n) w) := by
  unfold iv
  have : op = 15 ∨ op = 16 ∨ op = 17 ∨ op = 20 ∨ op = 21 ∨ op = 18 ∨ op = 19 := by omega
  rcases this with rfl | rfl | rfl | rfl | rfl | rfl | rfl
  case inr.inr.inr.inr.inr.inl | inr.inr.inr.inr.inr.inr =>
    obtain ⟨k, rfl⟩ : ∃ k : Nat, n = k := ⟨n.toNat, by have := hn (by decide); omega⟩
    have hk : k < 64 := by have := hn (by decide); omega
    have hkw : IntKind.u64.wrap (k : Int) = k := by rw [IntKind.wrap_u64]; omega
    clear hn h
    go_enter Try.func31, Try.ntmps31
    go_wp2
    go_ret
    refine ⟨ret_i64 ?_, (Below.refl _ _).alloc (Nat.le_refl _) _⟩
    unfold Rs.simp
    simp
  all_goals
    clear hn h
    go_enter Try.func31, Try.ntmps31
    go_wp2
    go_ret
    refine ⟨ret_i64 ?_, (Below.refl _ _).alloc (Nat.le_refl _) _⟩
    unfold Rs.simp
    simp
end Go.Proofs.Ytembhjfejhnpfaa
