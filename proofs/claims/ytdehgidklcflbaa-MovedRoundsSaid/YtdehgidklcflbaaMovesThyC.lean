/- The theory of package moves: rounds. -/
import Derived.Test.YtdehgidklcflbaaMovesThyB
namespace Go.Proofs.Ytdehgidklcflbaa.Mv

theorem iter_succ (F : List (Int × Int)) : ∀ (n : Nat) (p : Int), iter F (n + 1) p = get F (iter F n p)
  | 0, _ => rfl
  | n + 1, p => by
    show iter F (n + 1) (get F p) = _
    rw [iter_succ F n]
    rfl
theorem iter_add (F : List (Int × Int)) : ∀ (a b : Nat) (p : Int), iter F (a + b) p = iter F b (iter F a p)
  | 0, b, p => by simp [iter]
  | a + 1, b, p => by
    rw [show a + 1 + b = (a + b) + 1 from by omega]
    show iter F (a + b) (get F p) = _
    rw [iter_add F a b]
    rfl

theorem get_of_look {F : List (Int × Int)} {k f : Int} (h : look F k = some f) : get F k = f := by unfold get; rw [h]; rfl
theorem Round.get_key {F : List (Int × Int)} (h : Round F) {p : Int} (hp : p ∈ keys F) : get F p ∈ keys F := by
  obtain ⟨f, hf⟩ := look_of_key hp
  rw [get_of_look hf]
  exact (h.2.2 f).1 (val_of_look hf)
theorem Round.iter_key {F : List (Int × Int)} (h : Round F) : ∀ (n : Nat) {p : Int}, p ∈ keys F → iter F n p ∈ keys F
  | 0, _, hp => hp
  | n + 1, _, hp => h.iter_key n (h.get_key hp)

theorem vals_inj {F : List (Int × Int)} (h : (vals F).Nodup) {a b v : Int} (ha : (a, v) ∈ F) (hb : (b, v) ∈ F) : a = b := by
  induction F with
  | nil => simp at ha
  | cons p l ih =>
    simp only [vals, List.map_cons, List.nodup_cons] at h
    rcases List.mem_cons.1 ha with ha' | ha' <;> rcases List.mem_cons.1 hb with hb' | hb'
    · rw [← hb'] at ha'; injection ha'
    · subst ha'; exact (h.1 (List.mem_map.2 ⟨(b, v), hb', rfl⟩)).elim
    · subst hb'; exact (h.1 (List.mem_map.2 ⟨(a, v), ha', rfl⟩)).elim
    · exact ih h.2 ha' hb'
theorem Round.inj {F : List (Int × Int)} (h : Round F) {a b : Int} (ha : a ∈ keys F) (hb : b ∈ keys F) (e : get F a = get F b) : a = b := by
  obtain ⟨f, hf⟩ := look_of_key ha
  obtain ⟨g, hg⟩ := look_of_key hb
  rw [get_of_look hf, get_of_look hg] at e
  subst e
  exact vals_inj h.2.1 (look_mem hf) (look_mem hg)

theorem nodup_len : ∀ (L K : List Int), L.Nodup → (∀ x, x ∈ L → x ∈ K) → L.length ≤ K.length
  | [], _, _, _ => Nat.zero_le _
  | x :: L, K, hn, hs => by
    rw [List.nodup_cons] at hn
    have hx : x ∈ K := hs x List.mem_cons_self
    have hlen := List.length_erase_of_mem hx
    have hpos : 0 < K.length := List.length_pos_of_mem hx
    have := nodup_len L (K.erase x) hn.2 (fun y hy => (List.mem_erase_of_ne (by rintro rfl; exact hn.1 hy)).2 (hs y (List.mem_cons_of_mem _ hy)))
    simp
    omega

theorem Round.closes {F : List (Int × Int)} (h : Round F) {p : Int} (hp : p ∈ keys F) : Closes F p := by
  refine Classical.byContradiction fun hno => ?_
  have hno' : ∀ n, n < F.length → get F (iter F n p) ≠ p := fun n hn e => hno ⟨n, hn, e⟩
  have hinj : ∀ i j, i < j → j ≤ F.length → iter F i p ≠ iter F j p := by
    intro i
    induction i with
    | zero =>
      intro j hj hl e
      obtain ⟨k, rfl⟩ : ∃ k, j = k + 1 := ⟨j - 1, by omega⟩
      rw [iter_succ] at e
      exact hno' k (by omega) e.symm
    | succ i ih =>
      intro j hj hl e
      obtain ⟨k, rfl⟩ : ∃ k, j = k + 1 := ⟨j - 1, by omega⟩
      rw [iter_succ, iter_succ] at e
      exact ih k (by omega) (by omega) (h.inj (h.iter_key i hp) (h.iter_key k hp) e)
  have hnd : ((List.range (F.length + 1)).map fun i => iter F i p).Nodup := by
    unfold List.Nodup
    rw [List.pairwise_map]
    refine List.Pairwise.imp_of_mem ?_ List.pairwise_lt_range
    intro i j hi hj hlt
    exact hinj i j hlt (by have := List.mem_range.1 hj; omega)
  have := nodup_len _ (keys F) hnd (fun x hx => by
    obtain ⟨i, _, rfl⟩ := List.mem_map.1 hx
    exact h.iter_key i hp)
  simp [keys] at this
  omega

theorem lastOf_spec (F : List (Int × Int)) (goal : Int) : ∀ (fuel n : Nat) (q : Int), n < fuel → get F (iter F n q) = goal → get F (lastOf F goal fuel q) = goal ∧ ∃ k, lastOf F goal fuel q = iter F k q
  | 0, _, _, h, _ => by omega
  | fuel + 1, n, q, h, e => by
    unfold lastOf
    by_cases hq : get F q = goal
    · rw [if_pos hq]; exact ⟨hq, 0, rfl⟩
    · rw [if_neg hq]
      cases n with
      | zero => exact absurd e hq
      | succ n =>
        obtain ⟨h1, k, h2⟩ := lastOf_spec F goal fuel n (get F q) (by omega) e
        exact ⟨h1, k + 1, h2⟩

/-- A move laid takes away none but what is reached from where it begins. -/
theorem move_far (S : Int → Prop) : ∀ (n : Nat) (to : Int) (s : St), (keys s.F).Nodup → S to → (∀ q f, S q → look s.F q = some f → S f) → ∀ q, ¬ S q → look (move n to s).F q = look s.F q
  | 0, _, _, _, _, _, _, _ => rfl
  | n + 1, to, s, hn, hto, hcl, q, hq => by
    unfold move
    cases hf : look s.F to with
    | none => rfl
    | some f =>
      simp only
      split
      · rfl
      · rw [move_far S n f _ (nodup_del hn to) (hcl to f hto hf) (fun r g hr hg => by
          simp only [St.lay] at hg
          rw [look_del hn] at hg
          split at hg
          · cases hg
          · exact hcl r g hr hg) q hq]
        simp only [St.lay]
        rw [look_del hn, if_neg (by rintro rfl; exact hq hto)]

theorem put_in {F : List (Int × Int)} {k f : Int} (_h : look F k = some f) (v j : Int) : look (put F k v) j = if j = k then some v else look F j := look_put F k j v

/-- What a round that is opened and laid leaves. -/
structure Turned (G : Int → Option Int) (spare : Int) (s s' : St) (p : Int) : Prop where
  inv : Inv G spare s'
  round : Round s'.F
  sub : ∀ q f, look s'.F q = some f → look s.F q = some f
  gone : ∀ n, look s'.F (iter s.F n p) = none
  kept : ∀ q f, look s.F q = some f → (∀ n, iter s.F n p ≠ q) → look s'.F q = some f
  len : s'.out.length + s'.F.length = s.out.length + s.F.length + 1
  keySub : (keys s'.F).Sublist (keys s.F)
  outs : (spare, p) ∈ s'.out

theorem keys_move_sub : ∀ (n : Nat) (to : Int) (s : St), (keys (move n to s).F).Sublist (keys s.F)
  | 0, _, _ => List.Sublist.refl _
  | n + 1, to, s => by
    unfold move
    cases hf : look s.F to with
    | none => exact List.Sublist.refl _
    | some f =>
      simp only
      split
      · exact List.Sublist.refl _
      · exact (keys_move_sub n f _).trans (keys_del_sub _ _)
theorem outs_move_sub : ∀ (n : Nat) (to : Int) (s : St) (m : Int × Int), m ∈ s.out → m ∈ (move n to s).out
  | 0, _, _, _, h => h
  | n + 1, to, s, m, h => by
    unfold move
    cases hf : look s.F to with
    | none => exact h
    | some f =>
      simp only
      split
      · exact h
      · exact outs_move_sub n f _ m (List.mem_append.2 (.inl h))

theorem turned {G : Int → Option Int} {spare : Int} {s : St} (hi : Inv G spare s) (hr : Round s.F) {p : Int} (hp : p ∈ keys s.F) :
    Turned G spare s (move ((open1 spare s p).F.length + 1) p (open1 spare s p)) p := by
  obtain ⟨n0, hn0, hc0⟩ := hr.closes hp
  obtain ⟨hla, k0, hk0⟩ := lastOf_spec s.F p s.F.length n0 p hn0 hc0
  have hs1 : open1 spare s p = ⟨put s.F (lastOf s.F p s.F.length p) spare, put s.W p (get s.W p - 1), s.out ++ [(spare, p)]⟩ := rfl
  generalize hL : lastOf s.F p s.F.length p = L at *
  have hLk : L ∈ keys s.F := by rw [hk0]; exact hr.iter_key k0 hp
  obtain ⟨f0, hf0⟩ := look_of_key hLk
  have hLp : look s.F L = some p := by rw [hf0, ← get_of_look hf0, hla]
  have hps : p ≠ spare := by rintro rfl; exact (look_none.1 hi.spare_out) hp
  have hLs : L ≠ spare := by rintro rfl; exact (look_none.1 hi.spare_out) hLk
  -- the state behind the opening
  have i1 : Inv G spare (open1 spare s p) := by
    rw [hs1]
    have hlk : ∀ q, look (put s.F L spare) q = if q = L then some spare else look s.F q := fun q => look_put _ _ _ _
    refine ⟨?_, ?_, ?_, ?_, ?_, ?_, hi.free, ?_, ?_⟩
    · simp only; rw [keys_put_in hLp]; exact hi.nodup
    · intro q f h
      simp only at h ⊢
      rw [hlk] at h
      split at h
      · rename_i hq
        injection h with h
        subst h; subst hq
        rw [stands_snoc, if_pos rfl]
        exact hi.todo _ _ hLp
      · have hv := (hr.2.2 f).1 (val_of_look h)
        rw [stands_snoc, if_neg (by rintro rfl; exact (look_none.1 hi.spare_out) hv)]
        exact hi.todo _ _ h
    · intro q g hg hn
      simp only at hn ⊢
      rw [hlk] at hn
      split at hn
      · cases hn
      · rw [stands_snoc, if_neg (by rintro rfl; rw [hi.free] at hg; cases hg)]
        exact hi.done q g hg hn
    · intro q hq
      simp only at hq ⊢
      have hq2 : look s.F q ≠ none := by
        rw [hlk] at hq
        split at hq
        · rename_i e; rw [e, hLp]; simp
        · exact hq
      rw [stands_snoc, if_neg (by rintro rfl; exact hq2 hi.spare_out)]
      exact hi.old q hq2
    · intro q hq hne
      simp only
      rw [stands_snoc, if_neg (fun e => hne e.symm)]
      exact hi.else_ q hq hne
    · intro x hx
      simp only
      rw [get_put]
      have hcp := cnt_put_in hLp spare x
      rw [if_neg (show ¬ spare = x from fun e => hx e.symm)] at hcp
      have hw := hi.wants x hx
      split
      · rename_i e
        subst e
        rw [if_pos rfl] at hcp
        omega
      · rename_i e
        rw [if_neg (show ¬ p = x from fun h => e h.symm)] at hcp
        omega
    · intro q f h
      simp only at h
      rw [hlk] at h
      split at h
      · rename_i hq; injection h with h; subst h; subst hq; exact hLs
      · exact hi.unlike q f h
    · intro m hm
      simp only at hm
      rcases List.mem_append.1 hm with hm | hm
      · exact hi.outs m hm
      · simp at hm; subst hm; exact ⟨.inl rfl, fun e => hps e.symm⟩
  have hlk1 : ∀ q, look (open1 spare s p).F q = if q = L then some spare else look s.F q := fun q => by rw [hs1]; exact look_put _ _ _ _
  have i2 : Inv G spare (move ((open1 spare s p).F.length + 1) p (open1 spare s p)) := i1.move _ _
  have hk1 : keys (open1 spare s p).F = keys s.F := by rw [hs1]; exact keys_put_in hLp _
  have hstuck : ∀ q, q ∈ keys (move ((open1 spare s p).F.length + 1) p (open1 spare s p)).F → Stuck (move ((open1 spare s p).F.length + 1) p (open1 spare s p)) q := by
    intro q hq
    refine move_stuck _ _ _ i1.nodup (by omega) q ?_
    by_cases hqp : q = p
    · exact .inr hqp
    · refine .inl (.inr ?_)
      have hq1 : q ∈ keys s.F := by
        have := (keys_move_sub _ _ _).subset hq
        rw [hk1] at this; exact this
      have hqs : q ≠ spare := by rintro rfl; exact (look_none.1 hi.spare_out) hq1
      have hv := (hr.2.2 q).2 hq1
      have hw := hi.wants q hqs
      have hpos : 0 < cnt s.F q := by
        obtain ⟨r, hr1⟩ := look_of_val hi.nodup hv
        exact List.countP_pos_iff.2 ⟨_, look_mem hr1, by simp⟩
      rw [hs1]
      simp only
      rw [get_put, if_neg hqp]
      omega
  have r2 := stuck_round i2 hstuck
  have hsub1 : ∀ q f, look (move ((open1 spare s p).F.length + 1) p (open1 spare s p)).F q = some f → look s.F q = some f := by
    intro q f h
    have h1 := move_sub _ _ _ i1.nodup q f h
    rw [hlk1] at h1
    split at h1
    · injection h1 with h1
      subst h1
      have := (r2.2.2 _).1 (val_of_look h)
      exact absurd this (look_none.1 i2.spare_out)
    · exact h1
  have hgp : look (move ((open1 spare s p).F.length + 1) p (open1 spare s p)).F p = none := by
    cases hl : look (move ((open1 spare s p).F.length + 1) p (open1 spare s p)).F p with
    | none => rfl
    | some f =>
      obtain ⟨q, hq⟩ := look_of_val r2.1 ((r2.2.2 p).2 (key_of_look hl))
      have h1 := hsub1 q p hq
      have : q = L := vals_inj hr.2.1 (look_mem h1) (look_mem hLp)
      subst this
      have h2 := move_sub _ _ _ i1.nodup q p hq
      rw [hlk1, if_pos rfl] at h2
      injection h2 with h2
      exact absurd h2.symm hps
  -- the orbit of p is gone
  have hgone : ∀ n, look (move ((open1 spare s p).F.length + 1) p (open1 spare s p)).F (iter s.F n p) = none := by
    intro n
    cases hl : look (move ((open1 spare s p).F.length + 1) p (open1 spare s p)).F (iter s.F n p) with
    | none => rfl
    | some f =>
      exfalso
      have hback : ∀ n, iter s.F n p ∈ keys (move ((open1 spare s p).F.length + 1) p (open1 spare s p)).F → p ∈ keys (move ((open1 spare s p).F.length + 1) p (open1 spare s p)).F := by
        intro n
        induction n with
        | zero => exact id
        | succ n ih =>
          intro h
          apply ih
          rw [iter_succ] at h
          obtain ⟨q, hq⟩ := look_of_val r2.1 ((r2.2.2 _).2 h)
          have h1 := hsub1 _ _ hq
          have : q = iter s.F n p := hr.inj (key_of_look h1) (hr.iter_key n hp) (get_of_look h1)
          rw [← this]
          exact key_of_look hq
      exact (look_none.1 hgp) (hback n (key_of_look hl))
  refine ⟨i2, r2, hsub1, hgone, ?_, ?_, ?_, ?_⟩
  · intro q f hq hno
    have hne : ¬ (q = spare ∨ ∃ n, q = iter s.F n p) := by
      rintro (rfl | ⟨n, e⟩)
      · rw [hi.spare_out] at hq; cases hq
      · exact hno n e.symm
    rw [move_far (fun q => q = spare ∨ ∃ n, q = iter s.F n p) _ p _ i1.nodup (.inr ⟨0, rfl⟩) (fun r g hr1 hg => by
      rw [hlk1] at hg
      split at hg
      · injection hg with hg; exact .inl hg.symm
      · rcases hr1 with rfl | ⟨n, rfl⟩
        · rw [hi.spare_out] at hg; cases hg
        · exact .inr ⟨n + 1, by rw [iter_succ, get_of_look hg]⟩) q hne]
    rw [hlk1, if_neg]
    · exact hq
    · rintro rfl
      exact hno k0 hk0.symm
  · rw [move_len]
    rw [hs1]
    simp only [List.length_append, List.length_cons, List.length_nil]
    rw [put_length_in hLp]
    omega
  · have := keys_move_sub ((open1 spare s p).F.length + 1) p (open1 spare s p)
    rw [hk1] at this
    exact this
  · refine outs_move_sub _ _ _ _ ?_
    rw [hs1]
    simp

end Go.Proofs.Ytdehgidklcflbaa.Mv
