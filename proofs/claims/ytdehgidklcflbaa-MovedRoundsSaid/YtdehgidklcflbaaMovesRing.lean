/- A ring of places, and a chain: their roots. -/
import Derived.Test.YtdehgidklcflbaaMovesThyE
namespace Go.Proofs.Ytdehgidklcflbaa.Mv

def ringAt (N : Nat) (f : Int) (i : Nat) : Int × Int := (f + (i : Int), f + (((i + 1) % N : Nat) : Int))
def ring (N : Nat) (f : Int) : List (Int × Int) := (List.range N).map (ringAt N f)
theorem ring_len (N : Nat) (f : Int) : (ring N f).length = N := by simp [ring]
theorem mem_ring {N : Nat} {f : Int} {m : Int × Int} : m ∈ ring N f ↔ ∃ i, i < N ∧ m = ringAt N f i := by
  unfold ring
  rw [List.mem_map]
  constructor
  · rintro ⟨i, hi, rfl⟩; exact ⟨i, List.mem_range.1 hi, rfl⟩
  · rintro ⟨i, hi, rfl⟩; exact ⟨i, List.mem_range.2 hi, rfl⟩
theorem ring_take (N : Nat) (f : Int) (k : Nat) (hk : k ≤ N) : (ring N f).take k = (List.range k).map (ringAt N f) := by
  unfold ring
  rw [← List.map_take, List.take_range, Nat.min_eq_left hk]
theorem ring_snoc (N : Nat) (f : Int) (k : Nat) (hk : k < N) : (ring N f).take (k + 1) = (ring N f).take k ++ [ringAt N f k] := by
  rw [ring_take N f _ (by omega), ring_take N f _ (by omega), List.range_succ, List.map_append]
  rfl
theorem mem_take {N : Nat} {f : Int} {k : Nat} (hk : k ≤ N) {m : Int × Int} : m ∈ (ring N f).take k ↔ ∃ i, i < k ∧ m = ringAt N f i := by
  rw [ring_take N f k hk, List.mem_map]
  constructor
  · rintro ⟨i, hi, rfl⟩; exact ⟨i, List.mem_range.1 hi, rfl⟩
  · rintro ⟨i, hi, rfl⟩; exact ⟨i, List.mem_range.2 hi, rfl⟩
theorem take_nodup (N : Nat) (f : Int) (k : Nat) (hk : k ≤ N) : (keys ((ring N f).take k)).Nodup := by
  rw [ring_take N f k hk]
  unfold keys
  rw [List.map_map]
  unfold List.Nodup
  rw [List.pairwise_map]
  refine List.Pairwise.imp ?_ (List.nodup_range (n := k))
  intro a b h
  simp only [Function.comp, ringAt]
  omega
theorem ring_may (N : Nat) (f : Int) (k : Nat) (hk : k ≤ N) : may (f - 1) ((ring N f).take k) [] = true := by
  rw [may_iff]
  refine ⟨fun m hm => ?_, take_nodup N f k hk⟩
  obtain ⟨i, hi, rfl⟩ := (mem_take hk).1 hm
  refine ⟨rfl, ?_, ?_⟩ <;> simp only [ringAt] <;> omega
theorem mod_pred {N i : Nat} (hN : 2 ≤ N) (hi : i < N) : ((i + 1) % N = i + 1 ∧ i + 1 < N) ∨ ((i + 1) % N = 0 ∧ i + 1 = N) := by
  by_cases h : i + 1 < N
  · exact .inl ⟨Nat.mod_eq_of_lt h, h⟩
  · have : i + 1 = N := by omega
    exact .inr ⟨by rw [this, Nat.mod_self], this⟩
theorem ring_real (N : Nat) (f : Int) (k : Nat) (hN : 2 ≤ N) (hk : k ≤ N) : ((ring N f).take k).countP (fun m => decide (m.1 ≠ m.2)) = k := by
  have : ((ring N f).take k).countP (fun m => decide (m.1 ≠ m.2)) = ((ring N f).take k).length := by
    rw [List.countP_eq_length]
    intro m hm
    obtain ⟨i, hi, rfl⟩ := (mem_take hk).1 hm
    refine decide_eq_true ?_
    intro e
    have e' : f + (i : Int) = f + (((i + 1) % N : Nat) : Int) := e
    rcases mod_pred hN (by omega : i < N) with ⟨h, _⟩ | ⟨h, _⟩ <;> rw [h] at e' <;> omega
  rw [this, List.length_take, ring_len, Nat.min_eq_left hk]
theorem ring_look (N : Nat) (f : Int) (i : Nat) (hi : i < N) : look (ring N f) (f + (i : Int)) = some (f + (((i + 1) % N : Nat) : Int)) := by
  have hn := take_nodup N f N (Nat.le_refl _)
  refine look_some (by
    have h2 := hn
    rw [show (ring N f).take N = ring N f from by rw [List.take_of_length_le]; rw [ring_len]; exact Nat.le_refl _] at h2
    exact h2) ?_
  exact mem_ring.2 ⟨i, hi, rfl⟩
theorem iter_ring (N : Nat) (f : Int) (hN : 0 < N) : ∀ (n i : Nat), i < N → iter (ring N f) n (f + (i : Int)) = f + (((i + n) % N : Nat) : Int)
  | 0, i, hi => by
    show f + (i : Int) = _
    rw [Nat.add_zero, Nat.mod_eq_of_lt hi]
  | n + 1, i, hi => by
    show iter (ring N f) n (get (ring N f) (f + (i : Int))) = _
    have : get (ring N f) (f + (i : Int)) = f + (((i + 1) % N : Nat) : Int) := by
      unfold get; rw [ring_look N f i hi]; rfl
    rw [this, iter_ring N f hN n _ (Nat.mod_lt _ hN), Nat.mod_add_mod]
    congr 3
    omega
theorem ring_root {N : Nat} (hN : 2 ≤ N) (f : Int) {i : Nat} (hi : i < N) : root (ring N f) (ringAt N f i) = decide (i = 0) := by
  have hN0 : 0 < N := by omega
  by_cases h0 : i = 0
  · subst h0
    rw [decide_eq_true rfl]
    have h1 : (0 + 1) % N = 1 := Nat.mod_eq_of_lt (by omega)
    have ht : trail (ring N f) (f + ((0 : Nat) : Int)) (ring N f).length (f + (((0 + 1) % N : Nat) : Int)) (f + ((0 : Nat) : Int)) = (f + ((0 : Nat) : Int), f + ((0 : Nat) : Int)) := by
      refine trail_to _ _ _ (N - 1) _ _ (by rw [ring_len]; omega) ?_ ?_
      · rw [h1, iter_ring N f hN0 _ _ (by omega), show 1 + (N - 1) = N from by omega, Nat.mod_self]
      · intro j hj
        rw [h1, iter_ring N f hN0 _ _ (by omega), iter_ring N f hN0 _ _ (by omega), Nat.mod_eq_of_lt (by omega : 1 + j < N)]
        refine ⟨?_, by omega, by omega⟩
        rw [ring_look N f _ (by omega)]
        congr 4
    unfold root ringAt
    simp only
    rw [ht, h1]
    simp
    omega
  · rw [decide_eq_false h0]
    cases hr : root (ring N f) (ringAt N f i) with
    | false => rfl
    | true =>
      exfalso
      unfold root ringAt at hr
      simp only [Bool.and_eq_true, decide_eq_true_iff] at hr
      obtain ⟨⟨hr1, hr2⟩, hr3⟩ := hr
      obtain ⟨n, hn1, hn2, hn3⟩ := trail_back _ _ _ _ _ hr1
      rw [hr2, hr1] at hn2
      rw [iter_ring N f hN0 _ _ (Nat.mod_lt _ hN0), Nat.mod_add_mod] at hn1
      have hlt : N - 1 - i < n := by
        apply Classical.byContradiction
        intro hc
        have e : (i + 1 + n) % N = i := by omega
        by_cases h2 : i + 1 + n < N
        · rw [Nat.mod_eq_of_lt h2] at e; omega
        · have : i + 1 + n = N := by omega
          rw [this, Nat.mod_self] at e
          omega
      have := (hn2 _ hlt).2.2
      rw [iter_ring N f hN0 _ _ (Nat.mod_lt _ hN0), Nat.mod_add_mod, show i + 1 + (N - 1 - i) = N from by omega, Nat.mod_self] at this
      omega
theorem ring_roots {N : Nat} (hN : 2 ≤ N) (f : Int) : roots (ring N f) = 1 := by
  unfold roots
  have : (ring N f).countP (root (ring N f)) = (List.range N).countP (fun i => decide (i = 0)) := by
    conv => lhs; arg 2; unfold ring
    rw [List.countP_map]
    apply List.countP_congr
    intro i hi
    simp only [Function.comp]
    rw [ring_root hN f (List.mem_range.1 hi)]
  rw [this]
  obtain ⟨n, rfl⟩ : ∃ n, N = n + 1 := ⟨N - 1, by omega⟩
  rw [List.range_succ_eq_map, List.countP_cons, List.countP_map]
  have : (List.range n).countP ((fun i => decide (i = 0)) ∘ Nat.succ) = 0 := by
    rw [List.countP_eq_zero]
    intro i _
    simp
  rw [this]
  rfl
theorem chain_up {N : Nat} (hN : 2 ≤ N) (f : Int) {x y : Int} (h : look ((ring N f).take (N - 1)) x = some y) : y = x + 1 := by
  obtain ⟨i, hi, e⟩ := (mem_take (by omega)).1 (look_mem h)
  unfold ringAt at e
  rw [Nat.mod_eq_of_lt (by omega)] at e
  injection e with e1 e2
  omega
theorem chain_roots {N : Nat} (hN : 2 ≤ N) (f : Int) : roots ((ring N f).take (N - 1)) = 0 := by
  unfold roots
  rw [List.countP_eq_zero]
  intro m hm hr
  obtain ⟨i, hi, rfl⟩ := (mem_take (by omega)).1 hm
  unfold root at hr
  simp only [Bool.and_eq_true, decide_eq_true_iff] at hr
  obtain ⟨⟨hr1, hr2⟩, hr3⟩ := hr
  obtain ⟨n, hn1, hn2, -⟩ := trail_back _ _ _ _ _ hr1
  have hup : ∀ j, j ≤ n → (ringAt N f i).1 < iter ((ring N f).take (N - 1)) j (ringAt N f i).2 := by
    intro j
    induction j with
    | zero =>
      intro _
      show _ < (ringAt N f i).2
      unfold ringAt
      rw [Nat.mod_eq_of_lt (by omega)]
      simp only
      omega
    | succ j ih =>
      intro hj
      have h1 := ih (by omega)
      have h2 := chain_up hN f (hn2 j (by omega)).1
      omega
  have := hup n (Nat.le_refl _)
  omega
theorem stands_app (a b : List (Int × Int)) (p : Int) : stands (a ++ b) p = stands a (stands b p) := by
  unfold stands
  rw [List.foldr_append]
end Go.Proofs.Ytdehgidklcflbaa.Mv
