/- Assembly: a branch is long just where it would not reach. -/
import Derived.Test.YtbcpflogkniojaaAsmL
namespace Go.Proofs.Ytbcpflogkniojaa
open Go.RowKit
set_option linter.unusedVariables false
set_option linter.unusedSimpArgs false
namespace As
theorem find_some (k : Int) : ∀ (l : List It) (t : Nat), find k l = some t → ∃ y, l[t]? = some y ∧ isLabel y k = true
  | [], t, h => by simp [find] at h
  | x :: l, t, h => by
    unfold find at h
    split at h
    · rename_i hx
      injection h with h
      subst h
      exact ⟨x, rfl, hx⟩
    · cases hf : find k l with
      | none => rw [hf] at h; simp at h
      | some u =>
        rw [hf] at h
        simp at h
        subst h
        obtain ⟨y, h1, h2⟩ := find_some k l u hf
        exact ⟨y, by simpa using h1, h2⟩
theorem find_lt {k : Int} {l : List It} {t : Nat} (h : find k l = some t) : t < l.length := by
  obtain ⟨y, h1, _⟩ := find_some k l t h
  exact (List.getElem?_eq_some_iff.1 h1).1
/-- Where item i stands. -/
def pl (l : List It) (bs : List Bool) (i : Nat) : Nat := total (l.take i) (bs.take i) 0
theorem far_eq {l : List It} {bs : List Bool} {x : It} {t : Nat} (h : bs.length = l.length) (hf : find x.label l = some t) (p : Nat) : far l (places l bs 0) x p = (pl l bs t : Int) - p := by
  unfold far
  rw [hf, Option.bind_some, places_get l bs 0 t h (find_lt hf)]
  rfl
/-- What is between two places. -/
theorem pl_diff {l : List It} {bs : List Bool} {i j : Nat} (h : bs.length = l.length) (hij : i ≤ j) (hj : j ≤ l.length) : pl l bs j = pl l bs i + total ((l.take j).drop i) ((bs.take j).drop i) 0 := by
  unfold pl
  rw [total_split l bs 0 i j h hij hj]
  have := total_add ((l.take j).drop i) ((bs.take j).drop i) 0 (total (l.take i) (bs.take i) 0)
  rw [Nat.zero_add] at this
  omega
theorem between_mono {l : List It} {bs cs : List Bool} {i j : Nat} (h1 : bs.length = l.length) (h2 : cs.length = l.length) (hle : ∀ i : Nat, bs[i]? = some true → cs[i]? = some true) :
    total ((l.take j).drop i) ((bs.take j).drop i) 0 ≤ total ((l.take j).drop i) ((cs.take j).drop i) 0 := by
  refine total_mono _ _ _ _ (by simp; omega) (by simp; omega) (fun k hk => ?_)
  rw [List.getElem?_drop, List.getElem?_take] at hk ⊢
  split at hk
  · rename_i hlt
    rw [if_pos hlt]
    exact hle _ hk
  · cases hk
def Far (z : Int) : Prop := z < -512 ∨ 511 < z
theorem far_grow {l : List It} {bs cs : List Bool} {i t : Nat} (h1 : bs.length = l.length) (h2 : cs.length = l.length) (hle : ∀ i : Nat, bs[i]? = some true → cs[i]? = some true) (hi : i ≤ l.length) (ht : t ≤ l.length)
    (hf : Far ((pl l bs t : Int) - pl l bs i)) : Far ((pl l cs t : Int) - pl l cs i) := by
  rcases Nat.le_total i t with hit | hit
  · have e1 := pl_diff h1 hit ht
    have e2 := pl_diff h2 hit ht
    have := between_mono (l := l) (i := i) (j := t) h1 h2 hle
    unfold Far at *
    omega
  · have e1 := pl_diff h1 hit hi
    have e2 := pl_diff h2 hit hi
    have := between_mono (l := l) (i := t) (j := i) h1 h2 hle
    unfold Far at *
    omega
theorem grow_get (all : List It) (ps : List Nat) : ∀ (l : List It) (bs : List Bool) (qs : List Nat) (i : Nat) (x : It) (b : Bool) (q : Nat), l[i]? = some x → bs[i]? = some b → qs[i]? = some q → (grow all ps l bs qs)[i]? = some (stretch all ps x b q)
  | x :: l, b :: bs, q :: qs, 0, _, _, _, h1, h2, h3 => by
    simp only [List.getElem?_cons_zero, Option.some.injEq] at h1 h2 h3
    subst h1 h2 h3
    simp [grow]
  | x :: l, b :: bs, q :: qs, i + 1, _, _, _, h1, h2, h3 => by
    simp only [List.getElem?_cons_succ, grow] at h1 h2 h3 ⊢
    exact grow_get all ps l bs qs i _ _ _ h1 h2 h3
  | [], _, _, _, _, _, _, h1, _, _ => by simp at h1
  | _ :: _, [], _, _, _, _, _, _, h2, _ => by simp at h2
  | _ :: _, _ :: _, [], _, _, _, _, _, _, h3 => by simp at h3
/-- What is long does not reach. -/
def Out (l : List It) (bs : List Bool) : Prop := ∀ (i : Nat) (x : It), l[i]? = some x → bs[i]? = some true → x.kind = 2 ∧ ∀ t, find x.label l = some t → Far ((pl l bs t : Int) - pl l bs i)
theorem out_grow {l : List It} {bs : List Bool} (h : bs.length = l.length) (ho : Out l bs) : Out l (grow l (places l bs 0) l bs (places l bs 0)) := by
  intro i x hx hb
  have hi : i < l.length := (List.getElem?_eq_some_iff.1 hx).1
  have hp := places_length l bs 0 h
  have hq := places_get l bs 0 i h hi
  obtain ⟨b, hbi⟩ : ∃ b, bs[i]? = some b := ⟨_, List.getElem?_eq_getElem (by omega)⟩
  have hg := grow_get l (places l bs 0) l bs (places l bs 0) i x b _ hx hbi hq
  rw [hb] at hg
  injection hg with hg
  have hle := grow_mono l (places l bs 0) l bs (places l bs 0) h hp
  have hl := grow_length l (places l bs 0) l bs (places l bs 0) h hp
  have key : x.kind = 2 ∧ ∀ t, find x.label l = some t → Far ((pl l bs t : Int) - pl l bs i) := by
    cases b with
    | true => exact ho i x hx hbi
    | false =>
      unfold stretch at hg
      simp only [Bool.false_or] at hg
      have hg' := hg.symm
      simp only [Bool.and_eq_true, Bool.or_eq_true, decide_eq_true_eq] at hg'
      refine ⟨hg'.1, fun t ht => ?_⟩
      have := hg'.2
      rw [far_eq h ht] at this
      exact this
  exact ⟨key.1, fun t ht => far_grow h hl hle (by omega) (Nat.le_of_lt (find_lt ht)) (key.2 t ht)⟩
theorem out_layout (l : List It) : ∀ (k : Nat) (bs : List Bool), bs.length = l.length → Out l bs → Out l (layout l k bs)
  | 0, bs, _, h => h
  | k + 1, bs, hl, h => by
    unfold layout
    split
    · exact h
    · exact out_layout l k _ (grow_length _ _ _ _ _ hl (places_length l bs 0 hl)) (out_grow hl h)
theorem longs_out (l : List It) : Out l (longs l) := by
  refine out_layout l _ _ (by simp) (fun i x hx hb => ?_)
  rw [List.getElem?_replicate] at hb
  split at hb <;> simp at hb
/-- A branch is long just where it would not reach. -/
theorem long_iff {l : List It} {i t : Nat} {x : It} (hx : l[i]? = some x) (hk : x.kind = 2) (ht : find x.label l = some t) : (longs l)[i]? = some true ↔ Far ((pl l (longs l) t : Int) - pl l (longs l) i) := by
  have hi : i < l.length := (List.getElem?_eq_some_iff.1 hx).1
  obtain ⟨hfix, hlen⟩ := longs_fix l
  refine ⟨fun h => (longs_out l i x hx h).2 t ht, fun h => ?_⟩
  obtain ⟨b, hb⟩ : ∃ b, (longs l)[i]? = some b := ⟨_, List.getElem?_eq_getElem (by omega)⟩
  have hq := places_get l (longs l) 0 i hlen hi
  have hg := grow_get l (places0 l) l (longs l) (places0 l) i x b _ hx hb hq
  rw [hfix, hb] at hg
  injection hg with hg
  rw [hb]
  cases b with
  | true => rfl
  | false =>
    exfalso
    unfold stretch places0 at hg
    rw [far_eq hlen ht] at hg
    have h' : (pl l (longs l) t : Int) - (total (l.take i) ((longs l).take i) 0 : Nat) < -512 ∨ 511 < (pl l (longs l) t : Int) - (total (l.take i) ((longs l).take i) 0 : Nat) := h
    rcases h' with h' | h' <;> simp [hk, h'] at hg
end As
end Go.Proofs.Ytbcpflogkniojaa
