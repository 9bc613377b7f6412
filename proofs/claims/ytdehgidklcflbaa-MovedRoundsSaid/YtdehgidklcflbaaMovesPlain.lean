/- What package moves computes, as plain functions on lists. -/
namespace Go.Proofs.Ytdehgidklcflbaa.Mv

def look : List (Int × Int) → Int → Option Int
  | [], _ => none
  | p :: l, k => if k = p.1 then some p.2 else look l k
def put : List (Int × Int) → Int → Int → List (Int × Int)
  | [], k, v => [(k, v)]
  | p :: l, k, v => if k = p.1 then (p.1, v) :: l else p :: put l k v
def del : List (Int × Int) → Int → List (Int × Int)
  | [], _ => []
  | p :: l, k => if k = p.1 then l else p :: del l k
def get (l : List (Int × Int)) (k : Int) : Int := (look l k).getD 0

structure St where
  F : List (Int × Int)
  W : List (Int × Int)
  out : List (Int × Int)

/-- One move laid. -/
def St.lay (s : St) (to f : Int) : St := ⟨del s.F to, put s.W f (get s.W f - 1), s.out ++ [(to, f)]⟩

/-- 'move': n is more than there is to fill. -/
def move : Nat → Int → St → St
  | 0, _, s => s
  | n + 1, to, s =>
    match look s.F to with
    | none => s
    | some f => if 0 < get s.W to then s else move n f (s.lay to f)

theorem del_length {l : List (Int × Int)} {k f : Int} (h : look l k = some f) : (del l k).length + 1 = l.length := by
  induction l with
  | nil => simp [look] at h
  | cons p l ih =>
    simp only [look] at h
    split at h
    · rename_i hk; simp [del, hk]
    · rename_i hk; simp [del, hk, ih h]

theorem move_done {n : Nat} {to : Int} {s : St} (h : look s.F to = none ∨ 0 < get s.W to) : move n to s = s := by
  cases n with
  | zero => rfl
  | succ n =>
    unfold move
    cases hf : look s.F to with
    | none => rfl
    | some f =>
      rcases h with h | h
      · rw [hf] at h; cases h
      · simp [h]

theorem move_step {n : Nat} {to f : Int} {s : St} (h : look s.F to = some f) (hw : ¬ 0 < get s.W to) : move (n + 1) to s = move n f (s.lay to f) := by
  rw [move, h]; simp [hw]

theorem look_put (l : List (Int × Int)) (k j v : Int) : look (put l k v) j = if j = k then some v else look l j := by
  induction l with
  | nil => simp [put, look]
  | cons p l ih =>
    simp only [put]
    split
    · rename_i h; subst h
      simp only [look]
      split <;> rfl
    · rename_i h
      simp only [look, ih]
      split
      · rename_i h1
        split
        · rename_i h2; exact absurd (h2.symm.trans h1) h
        · rfl
      · rfl
theorem get_put (l : List (Int × Int)) (k j v : Int) : get (put l k v) j = if j = k then v else get l j := by
  unfold get; rw [look_put]; split <;> rfl

/-- All wants lie within bounds. -/
def Wok (W : List (Int × Int)) (lo hi : Int) : Prop := ∀ x, lo ≤ get W x ∧ get W x ≤ hi

theorem Wok.put {W : List (Int × Int)} {lo hi : Int} (h : Wok W lo hi) (k v : Int) {lo' hi' : Int} (h1 : lo' ≤ lo) (h2 : hi ≤ hi') (h3 : lo' ≤ v) (h4 : v ≤ hi') : Wok (put W k v) lo' hi' := by
  intro x
  rw [get_put]
  split
  · exact ⟨h3, h4⟩
  · have := h x; omega

theorem put_length (l : List (Int × Int)) (k v : Int) : (put l k v).length ≤ l.length + 1 ∧ l.length ≤ (put l k v).length := by
  induction l with
  | nil => simp [put]
  | cons p l ih => simp only [put]; split <;> simp <;> omega
theorem put_length_in {l : List (Int × Int)} {k f : Int} (h : look l k = some f) (v : Int) : (put l k v).length = l.length := by
  induction l with
  | nil => simp [look] at h
  | cons p l ih =>
    simp only [look] at h
    split at h
    · rename_i hk; simp [put, hk]
    · rename_i hk; simp [put, hk, ih h]
theorem del_length_le (l : List (Int × Int)) (k : Int) : (del l k).length ≤ l.length := by
  induction l with
  | nil => simp [del]
  | cons p l ih => simp only [del]; split <;> simp; omega

theorem move_len : ∀ (n : Nat) (to : Int) (s : St), (move n to s).out.length + (move n to s).F.length = s.out.length + s.F.length
  | 0, _, _ => rfl
  | n + 1, to, s => by
    unfold move
    cases h : look s.F to with
    | none => rfl
    | some f =>
      simp only
      split
      · rfl
      · rw [move_len n f]
        have := del_length h
        simp only [St.lay, List.length_append, List.length_cons, List.length_nil]
        omega

theorem move_wok (c : Int) : ∀ (n : Nat) (to : Int) (s : St), Wok s.W (c + s.F.length) 2000 → Wok (move n to s).W (c + (move n to s).F.length) 2000
  | 0, _, _, h => h
  | n + 1, to, s, h => by
    unfold move
    cases hf : look s.F to with
    | none => exact h
    | some f =>
      simp only
      split
      · exact h
      · refine move_wok c n f _ ?_
        have hl := del_length hf
        have := h f
        exact Wok.put h _ _ (by simp only [St.lay]; omega) (by omega) (by simp only [St.lay]; omega) (by omega)

/-- Down the row of whence. -/
def iter (F : List (Int × Int)) : Nat → Int → Int
  | 0, p => p
  | n + 1, p => iter F n (get F p)
def Closes (F : List (Int × Int)) (p : Int) : Prop := ∃ n, n < F.length ∧ get F (iter F n p) = p

/-- The first pass: whence each place is filled; none: that may not be. -/
def fill (spare : Int) : List (Int × Int) → List (Int × Int) → Option (List (Int × Int))
  | [], F => some F
  | m :: l, F => if (look F m.1).isSome ∨ m.1 = spare ∨ m.2 = spare then none else fill spare l (put F m.1 m.2)
/-- The second pass. -/
def want1 (s : St) (m : Int × Int) : St := if m.1 = m.2 then ⟨del s.F m.1, s.W, s.out⟩ else ⟨s.F, put s.W m.2 (get s.W m.2 + 1), s.out⟩
def want (l : List (Int × Int)) (s : St) : St := l.foldl want1 s
/-- The third pass. -/
def lay1 (s : St) (m : Int × Int) : St := move (s.F.length + 1) m.1 s
def layAll (l : List (Int × Int)) (s : St) : St := l.foldl lay1 s
/-- Which place a round's first one fills. -/
def lastOf (F : List (Int × Int)) (goal : Int) : Nat → Int → Int
  | 0, p => p
  | n + 1, p => if get F p = goal then p else lastOf F goal n (get F p)
/-- A round, ready to be laid. -/
def open1 (spare : Int) (s : St) (p : Int) : St := ⟨put s.F (lastOf s.F p s.F.length p) spare, put s.W p (get s.W p - 1), s.out ++ [(spare, p)]⟩
/-- The fourth pass. -/
def turn1 (spare : Int) (s : St) (m : Int × Int) : St :=
  if (look s.F m.1).isSome then lay1 (open1 spare s m.1) m else s
def turnAll (spare : Int) (l : List (Int × Int)) (s : St) : St := l.foldl (turn1 spare) s

def order (l : List (Int × Int)) (spare : Int) : Option (List (Int × Int)) :=
  if 1000 < l.length then none else
  match fill spare l [] with
  | none => none
  | some F => some (turnAll spare l (layAll l (want l ⟨F, [], []⟩))).out

end Go.Proofs.Ytdehgidklcflbaa.Mv
