/- The theory of package moves: the passes of Order. -/
import Derived.Test.YtdehgidklcflbaaMovesThyA
namespace Go.Proofs.Ytdehgidklcflbaa.Mv

/-- The pigeons: as many values as keys, each key a value: then each value is a key, once. -/
theorem pigeons : ∀ (K V : List Int), K.Nodup → (∀ k, k ∈ K → k ∈ V) → V.length ≤ K.length → (∀ v, v ∈ V → v ∈ K) ∧ V.Nodup
  | [], V, _, _, hl => by
    have : V = [] := List.eq_nil_of_length_eq_zero (by simpa using hl)
    subst this
    exact ⟨by simp, List.nodup_nil⟩
  | k :: K, V, hn, hs, hl => by
    rw [List.nodup_cons] at hn
    have hk : k ∈ V := hs k List.mem_cons_self
    have hlen := List.length_erase_of_mem hk
    have hpos : 0 < V.length := List.length_pos_of_mem hk
    have ih := pigeons K (V.erase k) hn.2 (fun j hj => (List.mem_erase_of_ne (by rintro rfl; exact hn.1 hj)).2 (hs j (List.mem_cons_of_mem _ hj))) (by simp at hl; omega)
    have hp : V.Perm (k :: V.erase k) := List.perm_cons_erase hk
    refine ⟨fun v hv => ?_, ?_⟩
    · rcases List.mem_cons.1 (hp.mem_iff.1 hv) with rfl | h
      · exact List.mem_cons_self
      · exact List.mem_cons_of_mem _ (ih.1 v h)
    · rw [hp.nodup_iff, List.nodup_cons]
      exact ⟨fun h => hn.1 (ih.1 k h), ih.2⟩

/-! ### The first pass -/
def may (spare : Int) : List (Int × Int) → List (Int × Int) → Bool
  | [], _ => true
  | m :: l, F => !((look F m.1).isSome || decide (m.1 = spare) || decide (m.2 = spare)) && may spare l (F ++ [m])

theorem put_new {F : List (Int × Int)} {k : Int} (h : look F k = none) (v : Int) : put F k v = F ++ [(k, v)] := by
  induction F with
  | nil => rfl
  | cons p l ih =>
    simp only [look] at h
    split at h
    · cases h
    · rename_i hk; simp [put, hk, ih h]

theorem fill_eq (spare : Int) : ∀ (l F : List (Int × Int)), fill spare l F = if may spare l F then some (F ++ l) else none
  | [], F => by simp [fill, may]
  | m :: l, F => by
    unfold fill may
    by_cases h : (look F m.1).isSome = true ∨ m.1 = spare ∨ m.2 = spare
    · rw [if_pos h]
      rcases h with h | h | h <;> simp [h]
    · rw [if_neg h]
      have h1 : look F m.1 = none := by
        cases hl : look F m.1 with
        | none => rfl
        | some f => exact absurd (.inl (by rw [hl]; rfl)) h
      have h2 : ¬ m.1 = spare := fun e => h (.inr (.inl e))
      have h3 : ¬ m.2 = spare := fun e => h (.inr (.inr e))
      rw [put_new h1, fill_eq spare l]
      simp [h1, h2, h3]

theorem look_append_none {F : List (Int × Int)} {m : Int × Int} {k : Int} : look (F ++ [m]) k = none ↔ look F k = none ∧ k ≠ m.1 := by
  rw [look_none, look_none]
  simp [keys]

/-- What may be: no place twice, the spare one nowhere. -/
theorem may_iff (spare : Int) : ∀ (l F : List (Int × Int)), may spare l F = true ↔ ((∀ m, m ∈ l → look F m.1 = none ∧ m.1 ≠ spare ∧ m.2 ≠ spare) ∧ (keys l).Nodup)
  | [], F => by simp [may, keys]
  | m :: l, F => by
    unfold may
    simp only [Bool.and_eq_true, Bool.not_eq_true', Bool.or_eq_false_iff, decide_eq_false_iff_not, may_iff spare l, keys, List.map_cons, List.nodup_cons, List.mem_cons, forall_eq_or_imp]
    have e : (look F m.1).isSome = false ↔ look F m.1 = none := by cases look F m.1 <;> simp
    rw [e]
    constructor
    · rintro ⟨⟨⟨h1, h2⟩, h3⟩, h4, h5⟩
      refine ⟨⟨⟨h1, h2, h3⟩, fun x hx => ?_⟩, ?_, h5⟩
      · have := h4 x hx
        exact ⟨(look_append_none.1 this.1).1, this.2⟩
      · intro hm
        obtain ⟨x, hx, e⟩ := List.mem_map.1 hm
        exact (look_append_none.1 (h4 x hx).1).2 e
    · rintro ⟨⟨⟨h1, h2, h3⟩, h4⟩, h5, h6⟩
      refine ⟨⟨⟨h1, h2⟩, h3⟩, fun x hx => ⟨look_append_none.2 ⟨(h4 x hx).1, ?_⟩, (h4 x hx).2⟩, h6⟩
      intro e
      exact h5 (List.mem_map.2 ⟨x, hx, e⟩)

/-! ### The second pass -/
/-- What shall be: of each place that is filled from another one whence. -/
def goal (l : List (Int × Int)) (p : Int) : Option Int :=
  match look l p with
  | none => none
  | some f => if f = p then none else some f

theorem want_nodup : ∀ (l : List (Int × Int)) (s : St), (keys s.F).Nodup → (keys (want l s).F).Nodup
  | [], _, h => h
  | m :: l, s, h => by
    show (keys (want l (want1 s m)).F).Nodup
    refine want_nodup l _ ?_
    unfold want1
    split
    · exact nodup_del h _
    · exact h
theorem want_out : ∀ (l : List (Int × Int)) (s : St), (want l s).out = s.out
  | [], _ => rfl
  | m :: l, s => by
    show (want l (want1 s m)).out = s.out
    rw [want_out l]
    unfold want1
    split <;> rfl
theorem want_look : ∀ (l : List (Int × Int)) (s : St), (keys s.F).Nodup → ∀ p, look (want l s).F p = if (p, p) ∈ l then none else look s.F p
  | [], _, _, p => by simp [want]
  | m :: l, s, h, p => by
    show look (want l (want1 s m)).F p = _
    have hn : (keys (want1 s m).F).Nodup := by unfold want1; split; exact nodup_del h _; exact h
    rw [want_look l _ hn]
    unfold want1
    by_cases hm : m.1 = m.2
    · rw [if_pos hm]
      simp only
      rw [look_del h]
      by_cases hp : p = m.1
      · have : (p, p) ∈ m :: l := by rw [hp]; exact List.mem_cons.2 (.inl (Prod.ext rfl hm))
        rw [if_pos this, if_pos hp]
        split <;> rfl
      · have : (p, p) ∈ m :: l ↔ (p, p) ∈ l := by
          rw [List.mem_cons]
          constructor
          · rintro (h | h)
            · rw [← h] at hp; exact absurd rfl hp
            · exact h
          · exact .inr
        simp only [this, if_neg hp]
    · rw [if_neg hm]
      have : (p, p) ∈ m :: l ↔ (p, p) ∈ l := by
        rw [List.mem_cons]
        constructor
        · rintro (h | h)
          · rw [← h] at hm; exact absurd rfl hm
          · exact h
        · exact .inr
      simp only [this]
theorem want_get : ∀ (l : List (Int × Int)) (s : St) (x : Int), get (want l s).W x = get s.W x + (l.countP (fun m => decide (m.1 ≠ m.2) && decide (m.2 = x)) : Nat)
  | [], s, x => by simp [want]
  | m :: l, s, x => by
    show get (want l (want1 s m)).W x = _
    rw [want_get l, List.countP_cons]
    unfold want1
    by_cases hm : m.1 = m.2
    · rw [if_pos hm]; simp [hm]
    · rw [if_neg hm]
      simp only
      rw [get_put]
      by_cases hx : x = m.2
      · rw [if_pos hx]; subst hx; simp [hm]; omega
      · rw [if_neg hx]
        have e : ¬ m.2 = x := fun e => hx e.symm
        simp [hm, e]
/-- Behind the second pass just the moves from a place to another one are left, in their order. -/
theorem want_F : ∀ (l : List (Int × Int)) (a : List (Int × Int)) (s : St), s.F = a ++ l → (keys (a ++ l)).Nodup → (want l s).F = a ++ l.filter (fun m => decide (m.1 ≠ m.2))
  | [], a, s, h, _ => by simp [want, h]
  | m :: l, a, s, h, hn => by
    show (want l (want1 s m)).F = _
    have hdel : del (a ++ m :: l) m.1 = a ++ l := by
      clear h
      induction a with
      | nil => simp [del]
      | cons p a ih =>
        simp only [keys, List.cons_append, List.map_cons, List.nodup_cons] at hn
        have hne : ¬ m.1 = p.1 := by
          intro e
          exact hn.1 (by rw [← e]; simp)
        simp only [List.cons_append, del, if_neg hne]
        rw [ih hn.2]
    unfold want1
    by_cases hm : m.1 = m.2
    · rw [if_pos hm]
      rw [want_F l a _ (by simp only; rw [h, hdel]) (by
        rw [← hdel]; exact nodup_del hn _)]
      simp [hm]
    · rw [if_neg hm]
      rw [want_F l (a ++ [m]) _ (by simp only; rw [h]; simp) (by simpa using hn)]
      simp [hm]

theorem inv_start {l : List (Int × Int)} {spare : Int} (hm : may spare l [] = true) : Inv (goal l) spare (want l ⟨l, [], []⟩) := by
  rw [may_iff] at hm
  obtain ⟨h1, hn⟩ := hm
  have hF : (want l ⟨l, [], []⟩).F = l.filter (fun m => decide (m.1 ≠ m.2)) := by
    have := want_F l [] ⟨l, [], []⟩ rfl (by simpa using hn)
    simpa using this
  have hlook := want_look l ⟨l, [], []⟩ hn
  have hg : ∀ p, look (want l ⟨l, [], []⟩).F p = goal l p := by
    intro p
    rw [hlook]
    unfold goal
    cases hl : look l p with
    | none =>
      rw [if_neg]
      intro h
      exact (look_none.1 hl) (List.mem_map.2 ⟨_, h, rfl⟩)
    | some f =>
      simp only
      by_cases hfp : f = p
      · subst hfp; rw [if_pos (look_mem hl), if_pos rfl]
      · rw [if_neg, if_neg hfp]
        intro h
        have := look_some hn h
        rw [hl] at this
        injection this with this
        exact hfp this
  have hout : (want l ⟨l, [], []⟩).out = [] := want_out l _
  have hst : ∀ p, stands (want l ⟨l, [], []⟩).out p = p := fun p => by rw [hout]; rfl
  refine ⟨want_nodup l _ hn, ?_, ?_, fun p _ => hst p, fun p _ _ => hst p, ?_, ?_, ?_, ?_⟩
  · intro p f h
    rw [hst, ← hg]; exact h
  · intro p g h hl
    rw [hg, h] at hl; cases hl
  · intro x _
    rw [want_get, hF]
    simp only [get, look, Option.getD_none, Int.zero_add]
    unfold cnt
    rw [List.countP_filter]
    congr 1
    congr 1
    funext m
    rw [Bool.and_comm]
  · unfold goal
    cases hl : look l spare with
    | none => rfl
    | some f => exact absurd rfl (h1 _ (look_mem hl)).2.1
  · intro p f h
    rw [hg] at h
    unfold goal at h
    split at h
    · cases h
    · split at h
      · cases h
      · rename_i hne; injection h with h; subst h; exact fun e => hne e.symm
  · intro m hm
    rw [hout] at hm; simp at hm

/-! ### The third pass -/
theorem layAll_inv {G : Int → Option Int} {spare : Int} : ∀ (l : List (Int × Int)) (s : St), Inv G spare s → Inv G spare (layAll l s)
  | [], _, h => h
  | m :: l, s, h => layAll_inv l _ (h.move _ _)
theorem layAll_sub : ∀ (l : List (Int × Int)) (s : St), (keys s.F).Nodup → ∀ p f, look (layAll l s).F p = some f → look s.F p = some f
  | [], _, _, _, _, h => h
  | m :: l, s, hn, p, f, h => by
    have hn' : (keys (lay1 s m).F).Nodup := nodup_move _ _ _ hn
    exact move_sub _ _ _ hn p f (layAll_sub l (lay1 s m) hn' p f h)
where
  nodup_move : ∀ (n : Nat) (to : Int) (s : St), (keys s.F).Nodup → (keys (move n to s).F).Nodup
  | 0, _, _, h => h
  | n + 1, to, s, h => by
    unfold move
    cases hf : look s.F to with
    | none => exact h
    | some f =>
      simp only
      split
      · exact h
      · exact nodup_move n f _ (nodup_del h to)
theorem layAll_stuck : ∀ (l : List (Int × Int)) (s : St), (keys s.F).Nodup → ∀ p, (Stuck s p ∨ p ∈ keys l) → Stuck (layAll l s) p
  | [], _, _, p, h => by
    rcases h with h | h
    · exact h
    · simp [keys] at h
  | m :: l, s, hn, p, h => by
    show Stuck (layAll l (lay1 s m)) p
    refine layAll_stuck l _ (layAll_sub.nodup_move _ _ _ hn) p ?_
    rcases h with h | h
    · exact .inl (move_stuck _ _ _ hn (by omega) p (.inl h))
    · simp only [keys, List.map_cons, List.mem_cons] at h
      rcases h with h | h
      · exact .inl (move_stuck _ _ _ hn (by omega) p (.inr h))
      · exact .inr h

/-- All that is left goes round: each place that is to be filled is wanted. -/
def Round (F : List (Int × Int)) : Prop := (keys F).Nodup ∧ (vals F).Nodup ∧ ∀ x, x ∈ vals F ↔ x ∈ keys F

theorem round_of {F : List (Int × Int)} (hn : (keys F).Nodup) (h : ∀ p, p ∈ keys F → p ∈ vals F) : Round F := by
  have := pigeons (keys F) (vals F) hn h (by simp [keys, vals])
  exact ⟨hn, this.2, fun x => ⟨this.1 x, h x⟩⟩

theorem stuck_round {G : Int → Option Int} {spare : Int} {s : St} (h : Inv G spare s) (hs : ∀ p, p ∈ keys s.F → Stuck s p) : Round s.F := by
  refine round_of h.nodup fun p hp => ?_
  rcases hs p hp with hn | hw
  · exact absurd hp (look_none.1 hn)
  · have hne : p ≠ spare := by rintro rfl; exact (look_none.1 h.spare_out) hp
    have := h.wants p hne
    exact cnt_pos (by omega)

theorem want_keys {l : List (Int × Int)} (s : St) (hn : (keys s.F).Nodup) {p : Int} (h : p ∈ keys (want l s).F) : p ∈ keys s.F := by
  obtain ⟨f, hf⟩ := look_of_key h
  rw [want_look l s hn] at hf
  split at hf
  · cases hf
  · exact key_of_look hf

theorem round_start {l : List (Int × Int)} {spare : Int} (hm : may spare l [] = true) : Inv (goal l) spare (layAll l (want l ⟨l, [], []⟩)) ∧ Round (layAll l (want l ⟨l, [], []⟩)).F := by
  have hi := inv_start hm
  have hi2 := layAll_inv l _ hi
  refine ⟨hi2, stuck_round hi2 fun p hp => layAll_stuck l _ hi.nodup p (.inr ?_)⟩
  obtain ⟨f, hf⟩ := look_of_key hp
  have := layAll_sub l _ hi.nodup p f hf
  exact want_keys _ ((may_iff _ _ _).1 hm).2 (key_of_look this)

end Go.Proofs.Ytdehgidklcflbaa.Mv
