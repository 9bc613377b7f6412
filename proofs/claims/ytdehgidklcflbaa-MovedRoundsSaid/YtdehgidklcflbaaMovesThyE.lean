/- The theory of package moves: the reference's count of rounds. -/
import Derived.Test.YtdehgidklcflbaaMovesThyD
namespace Go.Proofs.Ytdehgidklcflbaa.Mv

/-- The reference's way down from a move: where it comes to, and the least place on the way. -/
def trail (l : List (Int × Int)) (goal : Int) : Nat → Int → Int → Int × Int
  | 0, at_, least => (at_, least)
  | n + 1, at_, least =>
    if at_ = goal then (at_, least) else
    match look l at_ with
    | none => (at_, least)
    | some nx => trail l goal n nx (min least at_)
def root (l : List (Int × Int)) (m : Int × Int) : Bool :=
  decide ((trail l m.1 l.length m.2 m.1).1 = m.1) && decide ((trail l m.1 l.length m.2 m.1).2 = (trail l m.1 l.length m.2 m.1).1) && decide (m.2 ≠ (trail l m.1 l.length m.2 m.1).1)
def roots (l : List (Int × Int)) : Nat := l.countP (root l)

/-- Where the way comes back. -/
theorem trail_back (l : List (Int × Int)) (t : Int) : ∀ (fuel : Nat) (a least : Int), (trail l t fuel a least).1 = t →
    ∃ n, iter l n a = t ∧ (∀ j, j < n → look l (iter l j a) = some (iter l (j + 1) a) ∧ iter l j a ≠ t ∧ (trail l t fuel a least).2 ≤ iter l j a) ∧ (trail l t fuel a least).2 ≤ least
  | 0, a, least, h => ⟨0, h, fun j hj => by omega, Int.le_refl _⟩
  | fuel + 1, a, least, h => by
    unfold trail at h ⊢
    by_cases ha : a = t
    · rw [if_pos ha] at h ⊢
      exact ⟨0, ha, fun j hj => by omega, Int.le_refl _⟩
    · rw [if_neg ha] at h ⊢
      cases hl : look l a with
      | none => rw [hl] at h; exact absurd h ha
      | some nx =>
        rw [hl] at h
        simp only at h ⊢
        obtain ⟨n, h1, h2, h3⟩ := trail_back l t fuel nx (min least a) h
        have hg : get l a = nx := get_of_look hl
        refine ⟨n + 1, ?_, ?_, ?_⟩
        · show iter l n (get l a) = t
          rw [hg]; exact h1
        · intro j hj
          cases j with
          | zero =>
            refine ⟨?_, ha, ?_⟩
            · show look l a = some (iter l 0 (get l a))
              rw [hg]; exact hl
            · show _ ≤ a
              omega
          | succ j =>
            have := h2 j (by omega)
            show look l (iter l j (get l a)) = some (iter l (j + 1) (get l a)) ∧ iter l j (get l a) ≠ t ∧ _ ≤ iter l j (get l a)
            rw [hg]
            exact this
        · omega

theorem trail_to (l : List (Int × Int)) (t : Int) : ∀ (fuel n : Nat) (a least : Int), n ≤ fuel → iter l n a = t → (∀ j, j < n → look l (iter l j a) = some (iter l (j + 1) a) ∧ iter l j a ≠ t ∧ least ≤ iter l j a) → trail l t fuel a least = (t, least)
  | 0, n, a, least, hn, h, _ => by
    have : n = 0 := by omega
    subst this
    show (a, least) = _
    rw [show a = t from h]
  | fuel + 1, n, a, least, hn, h, hj => by
    unfold trail
    cases n with
    | zero =>
      have : a = t := h
      rw [if_pos this, this]
    | succ n =>
      have h0 := hj 0 (by omega)
      have hl : look l a = some (iter l 1 a) := h0.1
      have hne : a ≠ t := h0.2.1
      have hle : least ≤ a := h0.2.2
      rw [if_neg hne, hl]
      simp only
      have hg : iter l 1 a = get l a := rfl
      rw [hg]
      rw [show min least a = least from by omega]
      refine trail_to l t fuel n (get l a) least (by omega) h fun j hjn => ?_
      have := hj (j + 1) (by omega)
      exact this

/-- A set of places that go round among each other stays. -/
theorem keep_lay {G : Int → Option Int} {spare : Int} {s : St} {C : Int → Prop} (hi : Inv G spare s) (h1 : ∀ x, C x → look s.F x ≠ none) (h2 : ∀ x, C x → ∃ y, C y ∧ look s.F y = some x) {to f : Int} (hf : look s.F to = some f) (hw : ¬ 0 < get s.W to) : ¬ C to := by
  intro hc
  obtain ⟨y, _, hy⟩ := h2 to hc
  have hne : to ≠ spare := by rintro rfl; rw [hi.spare_out] at hf; cases hf
  have := hi.wants to hne
  have hpos : 0 < cnt s.F to := List.countP_pos_iff.2 ⟨_, look_mem hy, by simp⟩
  omega

theorem keep_move {G : Int → Option Int} {spare : Int} {C : Int → Prop} : ∀ (n : Nat) (to : Int) (s : St), Inv G spare s → (∀ x, C x → look s.F x ≠ none) → (∀ x, C x → ∃ y, C y ∧ look s.F y = some x) → ∀ x, C x → look (move n to s).F x = look s.F x
  | 0, _, _, _, _, _, _, _ => rfl
  | n + 1, to, s, hi, h1, h2, x, hx => by
    unfold move
    cases hf : look s.F to with
    | none => rfl
    | some f =>
      simp only
      split
      · rfl
      · rename_i hw
        have hn := keep_lay hi h1 h2 hf hw
        have hl : ∀ z, C z → look (s.lay to f).F z = look s.F z := fun z hz => by
          simp only [St.lay]
          rw [look_del hi.nodup, if_neg (by rintro rfl; exact hn hz)]
        rw [keep_move n f _ (hi.lay hf hw) (fun z hz => by rw [hl z hz]; exact h1 z hz) (fun z hz => by
          obtain ⟨y, hy, e⟩ := h2 z hz
          exact ⟨y, hy, by rw [hl y hy]; exact e⟩) x hx]
        exact hl x hx
theorem keep_layAll {G : Int → Option Int} {spare : Int} {C : Int → Prop} : ∀ (l : List (Int × Int)) (s : St), Inv G spare s → (∀ x, C x → look s.F x ≠ none) → (∀ x, C x → ∃ y, C y ∧ look s.F y = some x) → ∀ x, C x → look (layAll l s).F x = look s.F x
  | [], _, _, _, _, _, _ => rfl
  | m :: l, s, hi, h1, h2, x, hx => by
    have hl := keep_move (C := C) (s.F.length + 1) m.1 s hi h1 h2
    show look (layAll l (lay1 s m)).F x = _
    rw [keep_layAll l (lay1 s m) (hi.move _ _) (fun z hz => by
      show look (move _ _ s).F z ≠ none
      rw [hl z hz]; exact h1 z hz) (fun z hz => by
      obtain ⟨y, hy, e⟩ := h2 z hz
      refine ⟨y, hy, ?_⟩
      show look (move _ _ s).F y = _
      rw [hl y hy]; exact e) x hx]
    exact hl x hx

theorem want_look' {l : List (Int × Int)} (hn : (keys l).Nodup) {p f : Int} (h : look l p = some f) (hne : p ≠ f) : look (want l ⟨l, [], []⟩).F p = some f := by
  rw [want_look l _ hn, if_neg]
  · exact h
  · intro hm
    have := look_some hn hm
    rw [h] at this
    injection this with this
    exact hne this.symm

theorem root_iff {l : List (Int × Int)} {spare : Int} (hm : may spare l [] = true) {m : Int × Int} (hml : m ∈ l) :
    root l m = true ↔ m.1 ∈ keys (layAll l (want l ⟨l, [], []⟩)).F ∧ Least (layAll l (want l ⟨l, [], []⟩)).F m.1 := by
  obtain ⟨t, f⟩ := m
  have hn := ((may_iff _ _ _).1 hm).2
  have hl := look_some hn hml
  obtain ⟨hi3, hr⟩ := round_start hm
  have hsub : ∀ q g, look (layAll l (want l ⟨l, [], []⟩)).F q = some g → look l q = some g := fun q g h => by
    have := layAll_sub l _ (inv_start hm).nodup q g h
    rw [want_look l _ hn] at this
    split at this
    · cases this
    · exact this
  unfold root
  simp only [Bool.and_eq_true, decide_eq_true_eq]
  constructor
  · rintro ⟨⟨h1, h2⟩, h3⟩
    rw [h1] at h2 h3
    obtain ⟨n, hn1, hj, hle⟩ := trail_back l t l.length f t h1
    rw [h2] at hj
    -- the round: t, f, ..
    have hgf : get l t = f := get_of_look hl
    have hstep : ∀ j, j ≤ n → look l (iter l j t) = some (iter l (j + 1) t) := by
      intro j hjn
      cases j with
      | zero => show look l t = some (get l t); rw [hgf]; exact hl
      | succ j =>
        show look l (iter l j (get l t)) = some (iter l (j + 1) (get l t))
        rw [hgf]
        exact (hj j (by omega)).1
    have hcl : iter l (n + 1) t = t := by show iter l n (get l t) = t; rw [hgf]; exact hn1
    have hge : ∀ j, j ≤ n → t ≤ iter l j t := by
      intro j hjn
      cases j with
      | zero => exact Int.le_refl _
      | succ j => show t ≤ iter l j (get l t); rw [hgf]; exact (hj j (by omega)).2.2
    have hneq : ∀ j, j ≤ n → iter l j t ≠ iter l (j + 1) t := by
      intro j hjn e
      -- a place that stands still is never left
      have hstay : ∀ k, iter l (j + k) t = iter l j t := by
        intro k
        induction k with
        | zero => rfl
        | succ k ih => rw [show j + (k + 1) = (j + k) + 1 from rfl, iter_succ, ih, ← iter_succ, ← e]
      have h4 := hstay (n + 1 - j)
      rw [show j + (n + 1 - j) = n + 1 from by omega, hcl] at h4
      cases j with
      | zero =>
        have : iter l 1 t = f := hgf
        rw [this] at e
        exact h3 e.symm
      | succ j =>
        have := (hj j (by omega)).2.1
        rw [show iter l (j + 1) t = iter l j f from by show iter l j (get l t) = _; rw [hgf]] at h4
        exact this h4.symm
    have hC1 : ∀ x, (∃ j, j ≤ n ∧ x = iter l j t) → look (want l ⟨l, [], []⟩).F x ≠ none := by
      rintro x ⟨j, hjn, rfl⟩
      rw [want_look' hn (hstep j hjn) (hneq j hjn)]
      simp
    have hC2 : ∀ x, (∃ j, j ≤ n ∧ x = iter l j t) → ∃ y, (∃ j, j ≤ n ∧ y = iter l j t) ∧ look (want l ⟨l, [], []⟩).F y = some x := by
      rintro x ⟨j, hjn, rfl⟩
      cases j with
      | zero =>
        refine ⟨_, ⟨n, Nat.le_refl _, rfl⟩, ?_⟩
        rw [want_look' hn (hstep n (Nat.le_refl _)) (hneq n (Nat.le_refl _)), hcl]
        rfl
      | succ j =>
        exact ⟨_, ⟨j, by omega, rfl⟩, want_look' hn (hstep j (by omega)) (hneq j (by omega))⟩
    have hkeep := keep_layAll (C := fun x => ∃ j, j ≤ n ∧ x = iter l j t) l _ (inv_start hm) hC1 hC2
    have hF : ∀ j, j ≤ n → look (layAll l (want l ⟨l, [], []⟩)).F (iter l j t) = some (iter l (j + 1) t) := fun j hjn => by
      rw [hkeep _ ⟨j, hjn, rfl⟩]
      exact want_look' hn (hstep j hjn) (hneq j hjn)
    have hk : t ∈ keys (layAll l (want l ⟨l, [], []⟩)).F := key_of_look (hF 0 (Nat.zero_le _))
    refine ⟨hk, ?_⟩
    -- all its places stand on the way
    have hit : ∀ k, iter (layAll l (want l ⟨l, [], []⟩)).F k t = iter l k t := fun k => iter_sub hr hsub k hk
    intro k
    rw [hit]
    have hmul := iter_mul hcl (k / (n + 1)) (k % (n + 1))
    rw [Nat.mod_add_div] at hmul
    rw [hmul]
    have : k % (n + 1) < n + 1 := Nat.mod_lt _ (by omega)
    exact hge _ (by omega)
  · rintro ⟨hk, hle⟩
    have hft : f ≠ t := by
      obtain ⟨g, hg⟩ := look_of_key hk
      have h1 := hsub _ _ hg
      rw [hl] at h1
      injection h1 with h1
      subst h1
      exact fun e => hi3.unlike _ _ hg e.symm
    -- the first return
    have hit : ∀ k, iter (layAll l (want l ⟨l, [], []⟩)).F k t = iter l k t := fun k => iter_sub hr hsub k hk
    have hex : ∃ n, n < (layAll l (want l ⟨l, [], []⟩)).F.length ∧ iter l (n + 1) t = t ∧ ∀ j, j < n → iter l (j + 1) t ≠ t := by
      obtain ⟨n, hn1, hn2⟩ := hr.closes hk
      rw [← iter_succ, hit] at hn2
      clear hle
      induction n using Nat.strongRecOn with
      | _ n ih =>
        by_cases h : ∃ j, j < n ∧ iter l (j + 1) t = t
        · obtain ⟨j, hj, e⟩ := h
          exact ih j hj (by omega) e
        · exact ⟨n, hn1, hn2, fun j hj e => h ⟨j, hj, e⟩⟩
    obtain ⟨n, hn1, hn2, hn3⟩ := hex
    have hgf : get l t = f := get_of_look hl
    have hlen : (layAll l (want l ⟨l, [], []⟩)).F.length ≤ l.length := by
      have := nodup_len (keys (layAll l (want l ⟨l, [], []⟩)).F) (keys l) hr.1 (fun x hx => keys_start hm hx)
      simpa [keys] using this
    have htr : trail l t l.length f t = (t, t) := by
      refine trail_to l t l.length n f t (by omega) ?_ ?_
      · rw [← hgf]; exact hn2
      · intro j hj
        have e : ∀ i, iter l i f = iter l (i + 1) t := fun i => by show _ = iter l i (get l t); rw [hgf]
        rw [e, e]
        refine ⟨?_, hn3 j hj, ?_⟩
        · have hkj := hr.iter_key (j + 1) hk
          obtain ⟨g, hg⟩ := look_of_key hkj
          rw [hit] at hg
          have := hsub _ _ hg
          rw [this, iter_succ l (j + 1), get_of_look this]
        · rw [← hit]; exact hle _
    rw [htr]
    exact ⟨⟨rfl, rfl⟩, hft⟩

theorem countP_map' {α β : Type} (f : α → β) (q : β → Bool) (l : List α) : (l.map f).countP q = l.countP (fun x => q (f x)) := by
  rw [List.countP_map]; rfl

theorem filter_in {K' K : List Int} (h : K'.Sublist K) (hn : K.Nodup) (q : Int → Bool) : K.countP (fun x => decide (x ∈ K') && q x) = K'.countP q := by
  conv => rhs; rw [← filter_sub h hn]
  rw [List.countP_filter]
  apply List.countP_congr
  intro x _
  rw [Bool.and_comm]

theorem keys_layAll_sub : ∀ (l : List (Int × Int)) (s : St), (keys (layAll l s).F).Sublist (keys s.F)
  | [], _ => List.Sublist.refl _
  | m :: l, s => (keys_layAll_sub l (lay1 s m)).trans (keys_move_sub _ _ _)

theorem roots_eq {l : List (Int × Int)} {spare : Int} (hm : may spare l [] = true) : roots l = rounds (layAll l (want l ⟨l, [], []⟩)).F := by
  classical
  have hn := ((may_iff _ _ _).1 hm).2
  have hsub : (keys (layAll l (want l ⟨l, [], []⟩)).F).Sublist (keys l) := by
    refine (keys_layAll_sub l _).trans ?_
    have hF : (want l ⟨l, [], []⟩).F = l.filter (fun m => decide (m.1 ≠ m.2)) := by
      have := want_F l [] ⟨l, [], []⟩ rfl (by simpa using hn)
      simpa using this
    rw [hF]
    exact List.Sublist.map _ List.filter_sublist
  unfold rounds
  rw [← filter_in hsub hn]
  unfold keys
  rw [countP_map']
  unfold roots
  apply List.countP_congr
  intro m hml
  rw [root_iff hm hml]
  simp [keys]

theorem order_len {l : List (Int × Int)} {spare : Int} (hm : may spare l [] = true) : (final l spare).out.length = l.countP (fun m => decide (m.1 ≠ m.2)) + roots l := by
  rw [final_len hm, roots_eq hm]

theorem order_used {l : List (Int × Int)} {spare : Int} (hm : may spare l [] = true) : (∃ m, m ∈ (final l spare).out ∧ (m.1 = spare ∨ m.2 = spare)) ↔ 0 < roots l := by
  rw [used_iff hm, roots_eq hm]

/-! ### The order of the moves that are handed in -/
theorem look_perm {l m : List (Int × Int)} (h : l.Perm m) (hn : (keys l).Nodup) (p : Int) : look l p = look m p := by
  have hn' : (keys m).Nodup := (h.map _).nodup_iff.1 hn
  cases hl : look l p with
  | none =>
    have h1 := look_none.1 hl
    have h2 : p ∉ keys m := fun h' => h1 ((h.map _).mem_iff.2 h')
    exact (look_none.2 h2).symm
  | some f => exact (look_some hn' (h.mem_iff.1 (look_mem hl))).symm

theorem may_perm {l m : List (Int × Int)} (h : l.Perm m) (spare : Int) : may spare l [] = may spare m [] := by
  rw [Bool.eq_iff_iff, may_iff, may_iff]
  constructor
  · rintro ⟨h1, h2⟩
    exact ⟨fun x hx => h1 x (h.mem_iff.2 hx), (h.map _).nodup_iff.1 h2⟩
  · rintro ⟨h1, h2⟩
    exact ⟨fun x hx => h1 x (h.mem_iff.1 hx), (h.map _).nodup_iff.2 h2⟩

theorem trail_congr {l m : List (Int × Int)} (h : ∀ p, look l p = look m p) (t : Int) : ∀ (fuel : Nat) (a least : Int), trail l t fuel a least = trail m t fuel a least
  | 0, _, _ => rfl
  | fuel + 1, a, least => by
    unfold trail
    rw [h a]
    split
    · rfl
    · cases look m a with
      | none => rfl
      | some nx => exact trail_congr h t fuel nx _

theorem roots_perm {l m : List (Int × Int)} (h : l.Perm m) (hn : (keys l).Nodup) : roots l = roots m := by
  unfold roots
  rw [h.countP_eq]
  apply List.countP_congr
  intro x _
  unfold root
  rw [h.length_eq, trail_congr (look_perm h hn)]

end Go.Proofs.Ytdehgidklcflbaa.Mv
