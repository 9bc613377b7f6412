/- The theory of package moves: what Order brings about, and in how many moves. -/
import Derived.Test.YtdehgidklcflbaaMovesThyC
namespace Go.Proofs.Ytdehgidklcflbaa.Mv

/-! ### Rounds, counted -/
/-- p is the least of its round. -/
def Least (F : List (Int × Int)) (p : Int) : Prop := ∀ n, p ≤ iter F n p
open Classical in
noncomputable def rounds (F : List (Int × Int)) : Nat := (keys F).countP (fun p => decide (Least F p))

theorem filter_sub : ∀ {K' K : List Int}, K'.Sublist K → K.Nodup → K.filter (fun x => decide (x ∈ K')) = K' := by
  intro K' K h
  induction h with
  | slnil => intro _; rfl
  | @cons l1 l2 a h ih =>
    intro hn
    rw [List.nodup_cons] at hn
    have : a ∉ l1 := fun hm => hn.1 (h.subset hm)
    rw [List.filter_cons, if_neg (by simpa using this)]
    exact ih hn.2
  | @cons_cons l1 l2 a h ih =>
    intro hn
    rw [List.nodup_cons] at hn
    rw [List.filter_cons, if_pos (by simp)]
    congr 1
    have := ih hn.2
    rw [← this]
    apply List.filter_congr
    intro x hx
    rw [this]
    have : x ≠ a := by rintro rfl; exact hn.1 hx
    simp [this]

theorem countP_one {K : List Int} (hn : K.Nodup) {q : Int → Bool} {x : Int} (hx : x ∈ K) (hq : q x = true) (hu : ∀ y, y ∈ K → q y = true → y = x) : K.countP q = 1 := by
  induction K with
  | nil => simp at hx
  | cons a K ih =>
    rw [List.nodup_cons] at hn
    rw [List.countP_cons]
    rcases List.mem_cons.1 hx with rfl | hx
    · rw [if_pos hq]
      have : K.countP q = 0 := by
        rw [List.countP_eq_zero]
        intro y hy hqy
        have := hu y (List.mem_cons_of_mem _ hy) hqy
        subst this
        exact hn.1 hy
      omega
    · have hax : a ≠ x := by rintro rfl; exact hn.1 hx
      rw [if_neg]
      · rw [ih hn.2 hx (fun y hy h => hu y (List.mem_cons_of_mem _ hy) h)]
      · intro h; exact hax (hu a List.mem_cons_self h)

theorem countP_split (K : List Int) (q r : Int → Bool) : K.countP q = (K.filter r).countP q + K.countP (fun x => q x && !r x) := by
  induction K with
  | nil => rfl
  | cons a K ih =>
    rw [List.countP_cons, List.countP_cons, List.filter_cons]
    cases hr : r a with
    | true =>
      simp only [if_true, List.countP_cons]
      simp
      omega
    | false =>
      simp
      omega

theorem iter_mul {F : List (Int × Int)} {p : Int} {c : Nat} (hc : iter F c p = p) : ∀ k n, iter F (n + c * k) p = iter F n p
  | 0, n => by simp
  | k + 1, n => by
    rw [show n + c * (k + 1) = c + (n + c * k) from by rw [Nat.mul_succ]; omega, iter_add, hc]
    exact iter_mul hc k n

theorem min_below (f : Nat → Int) : ∀ N, 0 < N → ∃ n, n < N ∧ ∀ k, k < N → f n ≤ f k
  | 0, h => by omega
  | 1, _ => ⟨0, by omega, fun k hk => by have : k = 0 := by omega
                                         subst this; exact Int.le_refl _⟩
  | N + 2, _ => by
    obtain ⟨n, hn, h⟩ := min_below f (N + 1) (by omega)
    by_cases hc : f n ≤ f (N + 1)
    · exact ⟨n, by omega, fun k hk => by
        by_cases hk' : k < N + 1
        · exact h k hk'
        · have : k = N + 1 := by omega
          subst this; exact hc⟩
    · exact ⟨N + 1, by omega, fun k hk => by
        by_cases hk' : k < N + 1
        · have := h k hk'; omega
        · have : k = N + 1 := by omega
          subst this; exact Int.le_refl _⟩

theorem Round.least {F : List (Int × Int)} (h : Round F) {p : Int} (hp : p ∈ keys F) :
    ∃ c, 0 < c ∧ iter F c p = p ∧ ∃ n, Least F (iter F n p) ∧ ∀ k, Least F (iter F k p) → iter F k p = iter F n p := by
  obtain ⟨n0, _, h0⟩ := h.closes hp
  have hc : iter F (n0 + 1) p = p := by rw [iter_succ]; exact h0
  obtain ⟨n, hn, hmin⟩ := min_below (fun k => iter F k p) (n0 + 1) (by omega)
  have hall : ∀ k, iter F n p ≤ iter F k p := by
    intro k
    have := iter_mul hc (k / (n0 + 1)) (k % (n0 + 1))
    rw [Nat.mod_add_div] at this
    rw [this]
    exact hmin _ (Nat.mod_lt _ (by omega))
  refine ⟨n0 + 1, by omega, hc, n, fun k => ?_, fun k hk => ?_⟩
  · rw [← iter_add]; exact hall _
  · have h1 := hall k
    -- the least is reached from there
    have h2 := hk (n + (n0 + 1) * k - k)
    rw [← iter_add, show k + (n + (n0 + 1) * k - k) = n + (n0 + 1) * k from by
      have : k ≤ (n0 + 1) * k := Nat.le_mul_of_pos_left k (by omega)
      omega, iter_mul hc] at h2
    omega

theorem iter_sub {F F' : List (Int × Int)} (hr : Round F') (hsub : ∀ q f, look F' q = some f → look F q = some f) : ∀ n {q : Int}, q ∈ keys F' → iter F' n q = iter F n q
  | 0, _, _ => rfl
  | n + 1, q, hq => by
    obtain ⟨f, hf⟩ := look_of_key hq
    show iter F' n (get F' q) = iter F n (get F q)
    rw [get_of_look hf, get_of_look (hsub q f hf)]
    exact iter_sub hr hsub n ((hr.2.2 f).1 (val_of_look hf))

theorem Turned.rounds {G : Int → Option Int} {spare : Int} {s s' : St} {p : Int} (h : Turned G spare s s' p) (hr : Round s.F) (hp : p ∈ keys s.F) : rounds s.F = Mv.rounds s'.F + 1 := by
  classical
  unfold Mv.rounds
  rw [countP_split (keys s.F) _ (fun x => decide (x ∈ keys s'.F)), filter_sub h.keySub hr.1]
  congr 1
  · apply List.countP_congr
    intro q hq
    have : Least s.F q ↔ Least s'.F q := by
      unfold Least
      constructor
      · intro hl n; rw [iter_sub h.round h.sub n hq]; exact hl n
      · intro hl n; rw [← iter_sub h.round h.sub n hq]; exact hl n
    simp [this]
  · obtain ⟨c, _, _, n, hn, hu⟩ := hr.least hp
    refine countP_one hr.1 (hr.iter_key n hp) ?_ ?_
    · simp only [Bool.and_eq_true, decide_eq_true_eq, Bool.not_eq_true', decide_eq_false_iff_not]
      exact ⟨hn, look_none.1 (h.gone n)⟩
    · intro y hy hq
      simp only [Bool.and_eq_true, decide_eq_true_eq, Bool.not_eq_true', decide_eq_false_iff_not] at hq
      obtain ⟨f, hf⟩ := look_of_key hy
      have : ∃ k, iter s.F k p = y := Classical.byContradiction fun hno => hq.2 (key_of_look (h.kept y f hf fun k e => hno ⟨k, e⟩))
      obtain ⟨k, rfl⟩ := this
      exact hu k hq.1

/-! ### The fourth pass -/
theorem turn1_some {spare : Int} {s : St} {m : Int × Int} (h : m.1 ∈ keys s.F) : turn1 spare s m = move ((open1 spare s m.1).F.length + 1) m.1 (open1 spare s m.1) := by
  unfold turn1
  obtain ⟨f, hf⟩ := look_of_key h
  rw [if_pos (by rw [hf]; rfl)]
  rfl
theorem turn1_none {spare : Int} {s : St} {m : Int × Int} (h : m.1 ∉ keys s.F) : turn1 spare s m = s := by
  unfold turn1
  rw [look_none.2 h]
  rfl

structure Fin (G : Int → Option Int) (spare : Int) (s s' : St) (ks : List Int) : Prop where
  inv : Inv G spare s'
  round : Round s'.F
  left : ∀ p, p ∈ keys s'.F → p ∈ keys s.F ∧ p ∉ ks
  len : s'.out.length + s'.F.length + rounds s'.F = s.out.length + s.F.length + rounds s.F
  outs : (∀ m, m ∈ s.out → m ∈ s'.out)
  used : rounds s'.F < rounds s.F → ∃ p, (spare, p) ∈ s'.out
  same : rounds s'.F = rounds s.F → s' = s

theorem fin_refl {G : Int → Option Int} {spare : Int} {s : St} (hi : Inv G spare s) (hr : Round s.F) : Fin G spare s s [] :=
  ⟨hi, hr, fun _ h => ⟨h, by simp⟩, rfl, fun _ h => h, fun h => by omega, fun _ => rfl⟩

theorem outs_move (spare : Int) (s : St) (p : Int) (m : Int × Int) (h : m ∈ s.out) : m ∈ (move ((open1 spare s p).F.length + 1) p (open1 spare s p)).out :=
  outs_move_sub _ _ _ m (List.mem_append.2 (.inl h))

theorem turnAll_fin {G : Int → Option Int} {spare : Int} : ∀ (l : List (Int × Int)) (s : St), Inv G spare s → Round s.F → Fin G spare s (turnAll spare l s) (keys l)
  | [], s, hi, hr => fin_refl hi hr
  | m :: l, s, hi, hr => by
    show Fin G spare s (turnAll spare l (turn1 spare s m)) (keys (m :: l))
    by_cases hm : m.1 ∈ keys s.F
    · have ht := turned hi hr hm
      rw [turn1_some hm]
      have hR := ht.rounds hr hm
      have ih := turnAll_fin l _ ht.inv ht.round
      refine ⟨ih.inv, ih.round, fun p hp => ?_, ?_, fun x hx => ih.outs x (outs_move spare s m.1 x hx), fun _ => ⟨m.1, ih.outs _ ht.outs⟩, fun e => ?_⟩
      · have := ih.left p hp
        refine ⟨ht.keySub.subset this.1, ?_⟩
        simp only [keys, List.map_cons, List.mem_cons, not_or]
        refine ⟨?_, this.2⟩
        rintro rfl
        exact (look_none.1 (ht.gone 0)) this.1
      · have := ih.len
        have := ht.len
        omega
      · have hle : rounds (turnAll spare l (move ((open1 spare s m.1).F.length + 1) m.1 (open1 spare s m.1))).F ≤ rounds (move ((open1 spare s m.1).F.length + 1) m.1 (open1 spare s m.1)).F := rounds_le l _ ht.inv ht.round
        omega
    · rw [turn1_none hm]
      have ih := turnAll_fin l s hi hr
      refine ⟨ih.inv, ih.round, fun p hp => ?_, ih.len, ih.outs, ih.used, ih.same⟩
      have := ih.left p hp
      refine ⟨this.1, ?_⟩
      simp only [keys, List.map_cons, List.mem_cons, not_or]
      refine ⟨?_, this.2⟩
      rintro rfl
      exact hm this.1
where
  rounds_le : ∀ (l : List (Int × Int)) (s : St), Inv G spare s → Round s.F → rounds (turnAll spare l s).F ≤ rounds s.F
  | [], _, _, _ => Nat.le_refl _
  | m :: l, s, hi, hr => by
    show rounds (turnAll spare l (turn1 spare s m)).F ≤ rounds s.F
    by_cases hm : m.1 ∈ keys s.F
    · have ht := turned hi hr hm
      rw [turn1_some hm]
      have hR := ht.rounds hr hm
      have := rounds_le l _ ht.inv ht.round
      omega
    · rw [turn1_none hm]; exact rounds_le l s hi hr

/-- Order's state at its end, where l may be. -/
def final (l : List (Int × Int)) (spare : Int) : St := turnAll spare l (layAll l (want l ⟨l, [], []⟩))

theorem order_eq (l : List (Int × Int)) (spare : Int) : order l spare = if l.length ≤ 1000 ∧ may spare l [] = true then some (final l spare).out else none := by
  unfold order
  by_cases hl : 1000 < l.length
  · rw [if_pos hl, if_neg (by omega)]
  · rw [if_neg hl, fill_eq]
    by_cases hm : may spare l [] = true
    · rw [if_pos hm, if_pos ⟨by omega, hm⟩]
      simp only [List.nil_append]
      rfl
    · rw [if_neg hm, if_neg (by rintro ⟨_, h⟩; exact hm h)]

theorem final_fin {l : List (Int × Int)} {spare : Int} (hm : may spare l [] = true) : Fin (goal l) spare (layAll l (want l ⟨l, [], []⟩)) (final l spare) (keys l) := by
  obtain ⟨hi, hr⟩ := round_start hm
  exact turnAll_fin l _ hi hr

theorem keys_start {l : List (Int × Int)} {spare : Int} (hm : may spare l [] = true) {p : Int} (h : p ∈ keys (layAll l (want l ⟨l, [], []⟩)).F) : p ∈ keys l := by
  obtain ⟨f, hf⟩ := look_of_key h
  exact want_keys _ ((may_iff _ _ _).1 hm).2 (key_of_look (layAll_sub l _ (inv_start hm).nodup p f hf))

theorem final_empty {l : List (Int × Int)} {spare : Int} (hm : may spare l [] = true) : (final l spare).F = [] := by
  have h := final_fin hm
  cases hF : (final l spare).F with
  | nil => rfl
  | cons a t =>
    exfalso
    have hk : a.1 ∈ keys (final l spare).F := by rw [hF]; simp [keys]
    obtain ⟨h1, h2⟩ := h.left _ hk
    exact h2 (keys_start hm h1)

/-- In the fourth pass each row closes. -/
theorem closes_all {l : List (Int × Int)} {spare : Int} (hm : may spare l [] = true) (k : Nat) (p : Int) (h : (look (turnAll spare (l.take k) (layAll l (want l ⟨l, [], []⟩))).F p).isSome = true) :
    Closes (turnAll spare (l.take k) (layAll l (want l ⟨l, [], []⟩))).F p := by
  obtain ⟨hi, hr⟩ := round_start hm
  refine (turnAll_fin (l.take k) _ hi hr).round.closes ?_
  cases hl : look (turnAll spare (l.take k) (layAll l (want l ⟨l, [], []⟩))).F p with
  | none => rw [hl] at h; cases h
  | some f => exact key_of_look hl

/-! ### What the moves bring about -/
theorem right_to {l : List (Int × Int)} {spare : Int} (hm : may spare l [] = true) {t f : Int} (h : (t, f) ∈ l) : stands (final l spare).out t = f := by
  have hf := final_fin hm
  have h0 := (may_iff _ _ _).1 hm
  have hl := look_some h0.2 h
  by_cases he : f = t
  · subst he
    refine hf.inv.else_ f ?_ (h0.1 _ h).2.1
    unfold goal
    rw [hl]
    simp
  · refine hf.inv.done t f ?_ ?_
    · unfold goal
      rw [hl]
      simp [he]
    · rw [final_empty hm]; rfl
theorem right_else {l : List (Int × Int)} {spare : Int} (hm : may spare l [] = true) {p : Int} (h : look l p = none) (hs : p ≠ spare) : stands (final l spare).out p = p := by
  refine (final_fin hm).inv.else_ p ?_ hs
  unfold goal
  rw [h]
theorem right_out {l : List (Int × Int)} {spare : Int} (hm : may spare l [] = true) {m : Int × Int} (h : m ∈ (final l spare).out) : (m.1 = spare ∨ look l m.1 ≠ none) ∧ m.1 ≠ m.2 := by
  have := (final_fin hm).inv.outs m h
  refine ⟨?_, this.2⟩
  rcases this.1 with h | h
  · exact .inl h
  · refine .inr fun e => h ?_
    unfold goal
    rw [e]

/-! ### How many there are -/
theorem layAll_len : ∀ (l : List (Int × Int)) (s : St), (layAll l s).out.length + (layAll l s).F.length = s.out.length + s.F.length
  | [], _ => rfl
  | m :: l, s => by
    show (layAll l (lay1 s m)).out.length + (layAll l (lay1 s m)).F.length = _
    rw [layAll_len l]
    exact move_len _ _ _

theorem final_len {l : List (Int × Int)} {spare : Int} (hm : may spare l [] = true) :
    (final l spare).out.length = l.countP (fun m => decide (m.1 ≠ m.2)) + rounds (layAll l (want l ⟨l, [], []⟩)).F := by
  have h := (final_fin hm).len
  rw [final_empty hm] at h
  have h2 := layAll_len l (want l ⟨l, [], []⟩)
  have hn := ((may_iff _ _ _).1 hm).2
  have hF : (want l ⟨l, [], []⟩).F = l.filter (fun m => decide (m.1 ≠ m.2)) := by
    have := want_F l [] ⟨l, [], []⟩ rfl (by simpa using hn)
    simpa using this
  rw [hF, want_out] at h2
  simp only [List.length_nil, Nat.zero_add] at h2
  rw [← List.countP_eq_length_filter] at h2
  have : rounds ([] : List (Int × Int)) = 0 := rfl
  simp only [List.length_nil, this] at h
  omega

/-- Moves that are laid in the third pass do not touch the spare place. -/
theorem layAll_nospare {spare : Int} : ∀ (l : List (Int × Int)) (s : St), (keys s.F).Nodup → (∀ p f, look s.F p = some f → p ≠ spare ∧ f ≠ spare) → (∀ m, m ∈ s.out → m.1 ≠ spare ∧ m.2 ≠ spare) → ∀ m, m ∈ (layAll l s).out → m.1 ≠ spare ∧ m.2 ≠ spare
  | [], _, _, _, h => h
  | m :: l, s, hn, hF, ho => by
    refine layAll_nospare l (lay1 s m) (layAll_sub.nodup_move _ _ _ hn) (fun p f h => hF p f (move_sub _ _ _ hn p f h)) ?_
    exact go _ _ _ hn hF ho
where
  go : ∀ (n : Nat) (to : Int) (s : St), (keys s.F).Nodup → (∀ p f, look s.F p = some f → p ≠ spare ∧ f ≠ spare) → (∀ m, m ∈ s.out → m.1 ≠ spare ∧ m.2 ≠ spare) → ∀ m, m ∈ (move n to s).out → m.1 ≠ spare ∧ m.2 ≠ spare
  | 0, _, _, _, _, h => h
  | n + 1, to, s, hn, hF, ho => by
    unfold move
    cases hf : look s.F to with
    | none => exact ho
    | some f =>
      simp only
      split
      · exact ho
      · refine go n f _ (nodup_del hn to) (fun p g h => ?_) (fun m hm => ?_)
        · simp only [St.lay] at h
          rw [look_del hn] at h
          split at h
          · cases h
          · exact hF p g h
        · simp only [St.lay] at hm
          rcases List.mem_append.1 hm with hm | hm
          · exact ho m hm
          · simp at hm; subst hm; exact hF to f hf

theorem used_iff {l : List (Int × Int)} {spare : Int} (hm : may spare l [] = true) :
    (∃ m, m ∈ (final l spare).out ∧ (m.1 = spare ∨ m.2 = spare)) ↔ 0 < rounds (layAll l (want l ⟨l, [], []⟩)).F := by
  have h := final_fin hm
  have h0 : rounds (final l spare).F = 0 := by rw [final_empty hm]; rfl
  have hmi := (may_iff _ _ _).1 hm
  constructor
  · rintro ⟨m, hmo, hs⟩
    refine Nat.pos_of_ne_zero fun e => ?_
    have hsame := h.same (by rw [h0, e])
    rw [hsame] at hmo
    have := layAll_nospare (spare := spare) l (want l ⟨l, [], []⟩) (inv_start hm).nodup (fun p f hf => by
      rw [want_look l _ hmi.2] at hf
      split at hf
      · cases hf
      · exact ⟨(hmi.1 _ (look_mem hf)).2.1, (hmi.1 _ (look_mem hf)).2.2⟩) (by rw [want_out]; simp) m hmo
    rcases hs with hs | hs
    · exact this.1 hs
    · exact this.2 hs
  · intro hpos
    obtain ⟨p, hp⟩ := h.used (by omega)
    exact ⟨_, hp, .inl rfl⟩

end Go.Proofs.Ytdehgidklcflbaa.Mv
