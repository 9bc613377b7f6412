/- The theory of package moves: what holds of the state while moves are laid. -/
import Derived.Test.YtdehgidklcflbaaMovesPlain
namespace Go.Proofs.Ytdehgidklcflbaa.Mv

/-- What stands at a place behind moves: where it stood ahead of them. -/
def stands (out : List (Int × Int)) (p : Int) : Int := out.foldr (fun m q => if m.1 = q then m.2 else q) p

theorem stands_snoc (out : List (Int × Int)) (t f p : Int) : stands (out ++ [(t, f)]) p = if t = p then stands out f else stands out p := by
  unfold stands
  rw [List.foldr_append]
  simp only [List.foldr_cons, List.foldr_nil]
  by_cases h : t = p
  · simp [h]
  · simp [h]

/-- How many entries want x. -/
def cnt (F : List (Int × Int)) (x : Int) : Nat := F.countP (fun p => decide (p.2 = x))

def keys (F : List (Int × Int)) : List Int := F.map (·.1)
def vals (F : List (Int × Int)) : List Int := F.map (·.2)

theorem look_mem {F : List (Int × Int)} {k f : Int} (h : look F k = some f) : (k, f) ∈ F := by
  induction F with
  | nil => simp [look] at h
  | cons p l ih =>
    simp only [look] at h
    split at h
    · rename_i hk; injection h with h; subst hk; subst h; exact List.mem_cons_self
    · exact List.mem_cons_of_mem _ (ih h)
theorem look_none {F : List (Int × Int)} {k : Int} : look F k = none ↔ k ∉ keys F := by
  induction F with
  | nil => simp [look, keys]
  | cons p l ih =>
    simp only [look, keys, List.map_cons, List.mem_cons, not_or]
    split
    · rename_i hk; simp [hk]
    · rename_i hk; rw [ih]; simp [hk, keys]
theorem look_some {F : List (Int × Int)} {k f : Int} (hn : (keys F).Nodup) (h : (k, f) ∈ F) : look F k = some f := by
  induction F with
  | nil => simp at h
  | cons p l ih =>
    simp only [keys, List.map_cons, List.nodup_cons] at hn
    simp only [look]
    rcases List.mem_cons.1 h with h | h
    · subst h; simp
    · split
      · rename_i hk
        exact absurd (List.mem_map.2 ⟨(k, f), h, hk⟩) hn.1
      · exact ih hn.2 h
theorem key_of_look {F : List (Int × Int)} {k f : Int} (h : look F k = some f) : k ∈ keys F := List.mem_map.2 ⟨_, look_mem h, rfl⟩
theorem val_of_look {F : List (Int × Int)} {k f : Int} (h : look F k = some f) : f ∈ vals F := List.mem_map.2 ⟨_, look_mem h, rfl⟩
theorem look_of_key {F : List (Int × Int)} {k : Int} (h : k ∈ keys F) : ∃ f, look F k = some f := by
  cases hl : look F k with
  | none => exact absurd h (look_none.1 hl)
  | some f => exact ⟨f, rfl⟩
theorem look_of_val {F : List (Int × Int)} {f : Int} (hn : (keys F).Nodup) (h : f ∈ vals F) : ∃ k, look F k = some f := by
  obtain ⟨⟨k, f'⟩, hm, rfl⟩ := List.mem_map.1 h
  exact ⟨k, look_some hn hm⟩

theorem look_del {F : List (Int × Int)} (hn : (keys F).Nodup) (k j : Int) : look (del F k) j = if j = k then none else look F j := by
  induction F with
  | nil => simp [del, look]
  | cons p l ih =>
    have hn' := hn
    simp only [keys, List.map_cons, List.nodup_cons] at hn
    simp only [del]
    split
    · rename_i hk
      simp only [look]
      split
      · rename_i hj
        rw [look_none]; rw [hj, hk]; exact hn.1
      · rename_i hj
        rw [if_neg (by rw [← hk]; exact hj)]
    · rename_i hk
      simp only [look, ih hn.2]
      split
      · rename_i h1
        rw [if_neg (by rintro rfl; exact hk h1)]
      · rfl
theorem keys_del_sub (F : List (Int × Int)) (k : Int) : (keys (del F k)).Sublist (keys F) := by
  induction F with
  | nil => simp [del, keys]
  | cons p l ih =>
    simp only [del]
    split
    · exact List.sublist_cons_self _ _
    · simp only [keys, List.map_cons]; exact ih.cons_cons _
theorem nodup_del {F : List (Int × Int)} (hn : (keys F).Nodup) (k : Int) : (keys (del F k)).Nodup := (keys_del_sub F k).nodup hn

theorem cnt_del {F : List (Int × Int)} {k f : Int} (h : look F k = some f) (x : Int) : cnt F x = cnt (del F k) x + if f = x then 1 else 0 := by
  induction F with
  | nil => simp [look] at h
  | cons p l ih =>
    simp only [look] at h
    simp only [del]
    split at h
    · rename_i hk
      injection h with h
      subst h
      rw [if_pos hk]
      simp only [cnt, List.countP_cons]
      simp
    · rename_i hk
      rw [if_neg hk]
      have := ih h
      simp only [cnt, List.countP_cons] at this ⊢
      omega
theorem cnt_pos {F : List (Int × Int)} {x : Int} (h : 0 < cnt F x) : x ∈ vals F := by
  obtain ⟨p, hp, hx⟩ := List.countP_pos_iff.1 h
  exact List.mem_map.2 ⟨p, hp, by simpa using hx⟩
theorem cnt_zero {F : List (Int × Int)} {x : Int} (h : cnt F x = 0) : x ∉ vals F := by
  intro hx
  obtain ⟨p, hp, hx⟩ := List.mem_map.1 hx
  have : 0 < cnt F x := List.countP_pos_iff.2 ⟨p, hp, decide_eq_true hx⟩
  omega

theorem keys_put_in {F : List (Int × Int)} {k f : Int} (h : look F k = some f) (v : Int) : keys (put F k v) = keys F := by
  induction F with
  | nil => simp [look] at h
  | cons p l ih =>
    simp only [look] at h
    split at h
    · rename_i hk; simp [put, hk, keys]
    · rename_i hk
      have := ih h
      simp only [put, if_neg hk, keys, List.map_cons] at this ⊢
      rw [this]
theorem cnt_put_in {F : List (Int × Int)} {k f : Int} (h : look F k = some f) (v x : Int) : cnt (put F k v) x + (if f = x then 1 else 0) = cnt F x + if v = x then 1 else 0 := by
  induction F with
  | nil => simp [look] at h
  | cons p l ih =>
    simp only [look] at h
    split at h
    · rename_i hk
      injection h with h
      subst h
      simp only [put, if_pos hk, cnt, List.countP_cons]
      simp
      omega
    · rename_i hk
      have := ih h
      simp only [put, if_neg hk, cnt, List.countP_cons] at this ⊢
      omega

/-- What holds while moves are laid: G is what shall be, spare the place that stands for none. -/
structure Inv (G : Int → Option Int) (spare : Int) (s : St) : Prop where
  nodup : (keys s.F).Nodup
  todo : ∀ p f, look s.F p = some f → G p = some (stands s.out f)
  done : ∀ p g, G p = some g → look s.F p = none → stands s.out p = g
  old : ∀ p, look s.F p ≠ none → stands s.out p = p
  else_ : ∀ p, G p = none → p ≠ spare → stands s.out p = p
  wants : ∀ x, x ≠ spare → get s.W x = cnt s.F x
  free : G spare = none
  unlike : ∀ p f, look s.F p = some f → p ≠ f
  outs : ∀ m, m ∈ s.out → (m.1 = spare ∨ G m.1 ≠ none) ∧ m.1 ≠ m.2

theorem Inv.spare_out {G : Int → Option Int} {spare : Int} {s : St} (h : Inv G spare s) : look s.F spare = none := by
  cases hl : look s.F spare with
  | none => rfl
  | some f => have := h.todo _ _ hl; rw [h.free] at this; cases this

theorem Inv.lay {G : Int → Option Int} {spare : Int} {s : St} (h : Inv G spare s) {to f : Int} (hf : look s.F to = some f) (hw : ¬ 0 < get s.W to) : Inv G spare (s.lay to f) := by
  have hto : to ≠ spare := by rintro rfl; rw [h.spare_out] at hf; cases hf
  have hc : cnt s.F to = 0 := by have := h.wants to hto; omega
  have hnv : to ∉ vals s.F := cnt_zero hc
  refine ⟨nodup_del h.nodup to, ?_, ?_, ?_, ?_, ?_, h.free, ?_, ?_⟩
  · intro p g hp
    simp only [St.lay] at hp ⊢
    rw [look_del h.nodup] at hp
    split at hp
    · cases hp
    · rw [stands_snoc, if_neg]
      · exact h.todo p g hp
      · rintro rfl; exact hnv (val_of_look hp)
  · intro p g hp hn
    simp only [St.lay] at hn ⊢
    rw [look_del h.nodup] at hn
    rw [stands_snoc]
    split at hn
    · rename_i hpt
      subst hpt
      rw [if_pos rfl]
      have := h.todo _ _ hf
      rw [hp] at this
      injection this with this
      exact this.symm
    · rename_i hpt
      rw [if_neg (by rintro rfl; exact hpt rfl)]
      exact h.done p g hp hn
  · intro p hp
    simp only [St.lay] at hp ⊢
    rw [look_del h.nodup] at hp
    split at hp
    · exact absurd rfl hp
    · rename_i hpt
      rw [stands_snoc, if_neg (by rintro rfl; exact hpt rfl)]
      exact h.old p hp
  · intro p hp hs
    simp only [St.lay]
    rw [stands_snoc, if_neg]
    · exact h.else_ p hp hs
    · rintro rfl; have := h.todo _ _ hf; rw [hp] at this; cases this
  · intro x hx
    simp only [St.lay]
    rw [get_put]
    have := cnt_del hf x
    split
    · rename_i hxf
      subst hxf
      rw [if_pos rfl] at this
      have := h.wants x hx
      omega
    · rename_i hxf
      rw [if_neg (by rintro rfl; exact hxf rfl)] at this
      have := h.wants x hx
      omega
  · intro p g hp
    simp only [St.lay] at hp
    rw [look_del h.nodup] at hp
    split at hp
    · cases hp
    · exact h.unlike p g hp
  · intro m hm
    simp only [St.lay] at hm
    rcases List.mem_append.1 hm with hm | hm
    · exact h.outs m hm
    · simp at hm
      subst hm
      exact ⟨.inr (by have := h.todo _ _ hf; rw [this]; simp), h.unlike _ _ hf⟩

theorem Inv.move {G : Int → Option Int} {spare : Int} : ∀ (n : Nat) (to : Int) (s : St), Inv G spare s → Inv G spare (Mv.move n to s)
  | 0, _, _, h => h
  | n + 1, to, s, h => by
    unfold Mv.move
    cases hf : look s.F to with
    | none => exact h
    | some f =>
      simp only
      split
      · exact h
      · rename_i hw
        exact Inv.move n f _ (h.lay hf hw)

/-- Nothing more can be laid from p on. -/
def Stuck (s : St) (p : Int) : Prop := look s.F p = none ∨ 0 < get s.W p

theorem move_stuck : ∀ (n : Nat) (to : Int) (s : St), (keys s.F).Nodup → s.F.length < n → ∀ p, (Stuck s p ∨ p = to) → Stuck (move n to s) p
  | 0, _, _, _, h, _, _ => by omega
  | n + 1, to, s, hn, hl, p, hp => by
    unfold move
    cases hf : look s.F to with
    | none =>
      rcases hp with hp | rfl
      · exact hp
      · exact .inl hf
    | some f =>
      simp only
      split
      · rename_i hw
        rcases hp with hp | rfl
        · exact hp
        · exact .inr hw
      · refine move_stuck n f _ (nodup_del hn to) ?_ p ?_
        · have := del_length hf
          simp only [St.lay]
          omega
        · by_cases hpf : p = f
          · exact .inr hpf
          · refine .inl ?_
            unfold Stuck
            simp only [St.lay]
            rw [look_del hn, get_put, if_neg hpf]
            split
            · exact .inl rfl
            · rename_i hpt
              rcases hp with hp | hp
              · exact hp
              · exact absurd hp hpt

/-- What is still to be filled was to be filled, and as it was. -/
theorem move_sub : ∀ (n : Nat) (to : Int) (s : St), (keys s.F).Nodup → ∀ p f, look (move n to s).F p = some f → look s.F p = some f
  | 0, _, _, _, _, _, h => h
  | n + 1, to, s, hn, p, f, h => by
    unfold move at h
    cases hf : look s.F to with
    | none => rw [hf] at h; exact h
    | some g =>
      rw [hf] at h
      simp only at h
      split at h
      · exact h
      · have := move_sub n g _ (nodup_del hn to) p f h
        simp only [St.lay] at this
        rw [look_del hn] at this
        split at this
        · cases this
        · exact this

end Go.Proofs.Ytdehgidklcflbaa.Mv
