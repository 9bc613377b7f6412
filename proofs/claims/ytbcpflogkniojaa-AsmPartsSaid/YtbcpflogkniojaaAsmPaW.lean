/- AsmParts, walked. -/
import Derived.Test.YtbcpflogkniojaaAsmFx
import Derived.Test.YtbcpflogkniojaaAsmRq0
import Derived.Test.YtbcpflogkniojaaAsmIt
import Derived.Test.YtbcpflogkniojaaAsmO3
import Derived.Laws.AppendOwn
import Derived.Laws.OwnMore
namespace Go.Proofs.Ytbcpflogkniojaa
open Go.RowKit
set_option linter.unusedVariables false
set_option linter.unusedSimpArgs false
/-- Append of a slice, nil or not, to a row of the call's own; guarded or not. -/
theorem wpList_append_g {P : Program} {w : World} {ops : Array Oper} {rest : List Oper} {o : Oper} {a : Act} {Q : Exit → Act → World → Prop} (hw : Region.wanted o (yielded ops a.tmps) = true) (s x : Operand) (t : TypeId)
    (ho : o.op = .call { callee := .builtin .append, args := #[s, x], argTypes := #[t, t] })
    (base : Nat) (e : TypeId) (i : TypeInfo) (z : Value) (size bytes : Nat) (ht : P.underlying t = some (.slice e)) (hi : P.info? e = some i) (hz : i.zero = some z)
    (hsize : i.size = size) (hby : i.bytes = bytes) (hzs : z.cells.size = size) (hsz : 0 < size)
    (v : Value) (n : Nat) (xs : List Value) (hs : a.eval s = v) (hown : w.ownsRow base e size v n xs)
    (ax : Option Addr) (m c : Nat) (news : List Value) (hx : a.eval x = .slice ax m c) (hl : news.length = m * size)
    (hsrc : (ax = none ∧ c = 0 ∧ news = []) ∨ ∃ ad, ax = some ad ∧ ∀ j u, news[j]? = some u → w.cell? (ad.add j) = some u) (h1 : ∀ u ∈ news, u.oneCell' = true)
    (h63 : n + m ≤ maxLen) (hbytes : (n + m) * bytes ≤ 140737488355328) (hbase : base ≤ w.heap.size)
    (h : ∀ v' w', w'.ownsRow base e size v' (n + m) (xs ++ news) → w.grownBy w' v.ownBlock → wpList P ops Q rest (a.put o.dst v') w') : wpList P ops Q (o :: rest) a w := by
  unfold wpList
  rw [if_pos hw]
  refine .inl ?_
  rcases hsrc with ⟨rfl, rfl, rfl⟩ | ⟨ad, rfl, hn⟩
  · have hm : m = 0 := by
      have h0 : m * size = 0 := by simpa using hl.symm
      rcases Nat.mul_eq_zero.1 h0 with h | h
      · exact h
      · omega
    subst hm
    have hrun := run_append_owned_none (P := P) (w := w) base t o.type e i size ht hi v n xs hown
    have h' := h v w (by simpa using hown) ⟨rfl, rfl, rfl, Nat.le_refl _, fun _ _ _ => rfl⟩
    unfold Oper.wp
    simp [execOp, ho, resolve, invoke, builtin, hs, hx, hrun, Result.andThen]
    exact h'
  · exact wp_append_own w s x t ho base e i z size bytes ht hi hz hsize hby hzs hsz v n xs hs hown ad m c news hx hl hn h1 h63 hbytes hbase fun v' w' h2 h3 _ => h v' w' h2 h3
def pk (x : As.It) : Bool := decide (x.kind = 0) || decide (x.kind = 4)
def plainOf (m : List As.It) (k : Nat) : List As.It := (m.take k).filter pk
theorem plainOf_succ {m : List As.It} {k : Nat} {x : As.It} (hx : m[k]? = some x) : plainOf m (k + 1) = plainOf m k ++ (if pk x = true then [x] else []) := by
  unfold plainOf
  rw [List.take_add_one, hx, List.filter_append]
  cases h : pk x <;> simp [h]
theorem plainOf_length (m : List As.It) (k : Nat) : (plainOf m k).length ≤ m.length := by
  unfold plainOf
  exact Nat.le_trans (List.length_filter_le _ _) (by simp; omega)
theorem plainOf_plain (m : List As.It) (k : Nat) : As.Plain (plainOf m k) := by
  intro x hx
  have := (List.mem_filter.1 hx).2
  simpa [pk] using this
theorem item_one (x : As.It) : ∀ u ∈ x.cells, u.oneCell' = true := by
  intro u hu
  simp only [As.It.cells, List.mem_cons, List.not_mem_nil, or_false] at hu
  rcases hu with rfl | rfl | rfl | rfl | rfl | rfl | rfl | rfl <;> rfl
theorem flat_one (l : List As.It) : ∀ u ∈ As.flat l, u.oneCell' = true := by
  intro u hu
  obtain ⟨x, _, hx⟩ := List.mem_flatMap.1 hu
  exact item_one x u hx
/-- A slice of items as a source of cells. -/
theorem isl_src {w : World} {al : Option Addr} {n cl : Nat} {l : List As.It} (h : ISl w (.slice al n cl) l) (hn : al = none → cl = 0 ∧ l = []) : (al = none ∧ cl = 0 ∧ As.flat l = []) ∨ ∃ ad, al = some ad ∧ ∀ j u, (As.flat l)[j]? = some u → w.cell? (ad.add j) = some u := by
  cases al with
  | none => obtain ⟨h1, h2⟩ := hn rfl; exact .inl ⟨rfl, h1, by rw [h2]; rfl⟩
  | some ad =>
    refine .inr ⟨ad, rfl, fun j u hu => ?_⟩
    have hne : l ≠ [] := by intro e; rw [e] at hu; simp [As.flat] at hu
    obtain ⟨b, off, e, hb, hat⟩ := h.at hne
    injection e with e
    subst e
    have hjl : j < l.length * 8 := by have := (List.getElem?_eq_some_iff.1 hu).1; rw [flat_length] at this; exact this
    obtain ⟨x, hx⟩ : ∃ x, l[j / 8]? = some x := ⟨_, List.getElem?_eq_getElem (by omega)⟩
    obtain ⟨c0, c1, c2, c3, c4, c5, c6, c7⟩ := hat (j / 8) x hx
    have hi : j % 8 < x.cells.length := by show _ < 8; omega
    have hg := flat_get (i := j % 8) (u := x.cells[j % 8]) hx (List.getElem?_eq_getElem hi)
    rw [show j / 8 * 8 + j % 8 = j by omega, hu] at hg
    injection hg with hg
    rw [Go.WideShapes.add_plain, hg]
    have hj : off + j = off + j / 8 * 8 + j % 8 := by omega
    rw [hj]
    have h8 : j % 8 < 8 := by omega
    generalize j % 8 = r at *
    match r, h8 with
    | 0, _ => exact c0
    | 1, _ => exact c1
    | 2, _ => exact c2
    | 3, _ => exact c3
    | 4, _ => exact c4
    | 5, _ => exact c5
    | 6, _ => exact c6
    | 7, _ => exact c7
theorem Sl.get {w : World} {pb n c : Nat} {xs : List Value} (h : Sl w (.slice (some ⟨pb, 0, none⟩) n c) xs) {j : Nat} {u : Value} (hj : xs[j]? = some u) : w.cell? ⟨pb, j, none⟩ = some u := by
  obtain ⟨a', c', hv, h | ⟨ad, h1, h2⟩⟩ := h
  · rw [h.2.2] at hj; simp at hj
  · cases hv
    cases h1
    have := h2 j u hj
    rwa [Go.WideShapes.add_plain, Nat.zero_add] at this
theorem same21n (l : List Int) (a b : Option Addr) (ca cb n1 n2 : Nat) (w : World) (h1 : n1 = l.length) (h2 : n2 = l.length) (ha : Sl w (.slice a n1 ca) (l.map (Value.int .u32))) (hb : Sl w (.slice b n2 cb) (l.map (Value.int .u32))) (hlen : l.length ≤ 1000000000000) :
    Calls Try.prog 10 #[.slice a n1 ca, .slice b n2 cb] w fun e w' => e = .returned (.bool true) ∧ ∃ nd, w' = w.drewN nd := by
  subst h1 h2
  exact same21 l a b ca cb w ha hb hlen
theorem same17n (l : List Int) (a b : Option Addr) (ca cb n1 n2 : Nat) (w : World) (h1 : n1 = l.length) (h2 : n2 = l.length) (ha : Sl w (.slice a n1 ca) (l.map (Value.int .i64))) (hb : Sl w (.slice b n2 cb) (l.map (Value.int .i64))) (hlen : l.length ≤ 1000000000000) :
    Calls Try.prog 11 #[.slice a n1 ca, .slice b n2 cb] w fun e w' => e = .returned (.bool true) ∧ ∃ nd, w' = w.drewN nd := by
  subst h1 h2
  exact same17 l a b ca cb w ha hb hlen
theorem Sl.source {w : World} {a : Option Addr} {n c : Nat} {xs : List Value} (h : Sl w (.slice a n c) xs) : (a = none ∧ c = 0 ∧ xs = []) ∨ ∃ ad, a = some ad ∧ ∀ j u, xs[j]? = some u → w.cell? (ad.add j) = some u := by
  obtain ⟨a', c', hv, h⟩ := h
  cases hv
  exact h
set_option maxHeartbeats 16000000 in
set_option maxRecDepth 100000 in
theorem parts_walk (al : Option Addr) (cl : Nat) (l : List As.It) (am : Option Addr) (cm : Nat) (m : List As.It) (W : World) (hl : ISl W (.slice al l.length cl) l) (hm : ISl W (.slice am m.length cm) m) (hlen : l.length ≤ 9223372036854775807) (hmen : m.length ≤ 9223372036854775807) (hal : al = none → cl = 0 ∧ l = []) :
    Calls Try.prog 6 #[.slice al l.length cl, .slice am m.length cm] W fun e W' => e = .returned (.bool true) ∧ Below W.heap.size W W' := by
  have HL := Lib.hid hl
  have HM := Lib.hid hm
  have HAL := Lib.hid hal
  clear hl hm hal
  obtain ⟨i0, hi, hz0, hz1, hz2⟩ := info_parts infoItem
  have HI := Lib.hid hi
  have HZ0 := Lib.hid hz0
  have HZ1 := Lib.hid hz1
  have HZ2 := Lib.hid hz2
  clear hi hz0 hz1 hz2
  obtain ⟨u0, hi, hz0, hz1, hz2⟩ := info_parts infoU
  have HU := Lib.hid hi
  have HU0 := Lib.hid hz0
  have HU1 := Lib.hid hz1
  have HU2 := Lib.hid hz2
  clear hi hz0 hz1 hz2
  by_cases he : As.err l = 0
  case neg =>
    obtain ⟨E, hE⟩ : ∃ E, As.err l = E := ⟨_, rfl⟩
    have hq2 : (E != 0) = true := by rw [bne_iff_ne, ← hE]; exact he
    have HE := Lib.hid he
    have HEE := Lib.hid hE
    clear he hE
    go_enter Try.func6, Try.ntmps6
    go_wp2_with fail
    with_reducible refine (assemble_room al cl l _ HL.out hlen).mono ?_
    intro e w1 h1
    obtain ⟨hb1, rfl⟩ := h1.bad HE.out
    rw [HEE.out]
    have B1 := Lib.hid hb1
    clear h1 hb1
    go_wp2_with fail
    with_reducible refine (fixed_any _).mono ?_
    rintro e w2 ⟨rfl, hb2⟩
    have B2 := Lib.hid (B1.out.trans (hb2.mono B1.out.size))
    clear hb2
    go_wp2_with fail
    with_reducible refine (fixed_any _).mono ?_
    rintro e w3 ⟨rfl, hb3⟩
    have B3 := Lib.hid (B2.out.trans (hb3.mono B2.out.size))
    clear hb3
    go_wp2_with fail
    go_ret
    exact ⟨rfl, B3.out⟩
  case pos =>
    have HE := Lib.hid he
    have HG := Lib.hid (As.good_of he)
    clear he
    by_cases hbig : 1000 < l.length ∨ 1000 < m.length
    · rcases (by omega : 1000 < l.length ∨ (¬ 1000 < l.length ∧ 1000 < m.length)) with h1 | ⟨h1, h2⟩
      · have g1 : (1000 : Int) < l.length := by omega
        clear hbig
        go_enter Try.func6, Try.ntmps6
        go_wp2_with fail
        with_reducible refine (assemble_room al cl l _ HL.out hlen).mono ?_
        intro e w1 h1
        obtain ⟨hb1, ac, cc, pb, rfl, hc, hp⟩ := h1.ok HE.out
        have B1 := Lib.hid hb1
        clear h1 hb1 hc hp
        go_wp2_with fail
        with_reducible refine (fixed_any _).mono ?_
        rintro e w2 ⟨rfl, hb2⟩
        have B2 := Lib.hid (B1.out.trans (hb2.mono B1.out.size))
        clear hb2
        go_wp2_with fail
        with_reducible refine (fixed_any _).mono ?_
        rintro e w3 ⟨rfl, hb3⟩
        have B3 := Lib.hid (B2.out.trans (hb3.mono B2.out.size))
        clear hb3
        go_wp2_with fail
        go_ret
        exact ⟨rfl, B3.out⟩
      · have g1 : ¬ (1000 : Int) < l.length := by omega
        have g2 : (1000 : Int) < m.length := by omega
        clear hbig
        go_enter Try.func6, Try.ntmps6
        go_wp2_with fail
        with_reducible refine (assemble_room al cl l _ HL.out hlen).mono ?_
        intro e w1 h1
        obtain ⟨hb1, ac, cc, pb, rfl, hc, hp⟩ := h1.ok HE.out
        have B1 := Lib.hid hb1
        clear h1 hb1 hc hp
        go_wp2_with fail
        with_reducible refine (fixed_any _).mono ?_
        rintro e w2 ⟨rfl, hb2⟩
        have B2 := Lib.hid (B1.out.trans (hb2.mono B1.out.size))
        clear hb2
        go_wp2_with fail
        with_reducible refine (fixed_any _).mono ?_
        rintro e w3 ⟨rfl, hb3⟩
        have B3 := Lib.hid (B2.out.trans (hb3.mono B2.out.size))
        clear hb3
        go_wp2_with fail
        go_ret
        exact ⟨rfl, B3.out⟩
    · have hl1 : l.length ≤ 1000 := by omega
      have hm1 : m.length ≤ 1000 := by omega
      have g1 : ¬ (1000 : Int) < l.length := by omega
      have g2 : ¬ (1000 : Int) < m.length := by omega
      clear hbig
      have hcl1 : (As.code l).length ≤ 262144 := by have := As.cod_len HG.out.may l.length HG.out.len; rw [As.cod_full] at this; exact this
      go_enter Try.func6, Try.ntmps6
      go_wp2_with fail
      with_reducible refine (assemble_room al cl l _ HL.out hlen).mono ?_
      intro e w1 h1
      obtain ⟨hb1, ac, cc, pb, rfl, hc, hp⟩ := h1.ok HE.out
      have B1 := Lib.hid hb1
      have HC1 := Lib.hid hc
      have HP1 := Lib.hid hp
      clear h1 hb1 hc hp
      go_wp2_with fail
      with_reducible refine (fixed_any _).mono ?_
      rintro e w2 ⟨rfl, hb2⟩
      have B2 := Lib.hid (B1.out.trans (hb2.mono B1.out.size))
      have HC2 := Lib.hid (HC1.out.below hb2 (Nat.le_refl _))
      have HP2 := Lib.hid (HP1.out.below hb2 (Nat.le_refl _))
      have HL2 := Lib.hid (HL.out.below B2.out (Nat.le_refl _))
      have HM2 := Lib.hid (HM.out.below B2.out (Nat.le_refl _))
      have hw2 : W.heap.size ≤ w2.heap.size := B2.out.size
      clear hb2 HC1 HP1 HL HM B1
      go_wp2_with fail
      go_loopg [8, 9] m.length (fun gk lv i wx => ∃ (k b c : Nat), k ≤ m.length ∧ gk = m.length - k ∧ i = .int .i64 k ∧ lv = .slice (some ⟨b, 0, none⟩) (plainOf m k).length c ∧ wx.ownsRow w2.heap.size 35 8 (.slice (some ⟨b, 0, none⟩) (plainOf m k).length c) (plainOf m k).length (As.flat (plainOf m k)) ∧ Below w2.heap.size w2 wx)
      case atStart => exact ⟨0, _, _, Nat.zero_le _, rfl, rfl, rfl, World.ownsRow_lit _ _ 0 (Nat.le_refl _) (Nat.zero_le _) rfl, (Below.refl _ _).alloc (Nat.le_refl _) _⟩
      case round =>
        obtain ⟨k, b, c, hk, rfl, rfl, rfl, hown, hb⟩ := hrel
        have HO := Lib.hid hown
        have HB := Lib.hid hb
        have hws : w2.heap.size ≤ wr.heap.size := hb.size
        have hpl := plainOf_length m k
        by_cases hlt : k < m.length
        · obtain ⟨x, hx⟩ : ∃ x, m[k]? = some x := ⟨_, List.getElem?_eq_getElem hlt⟩
          have hne : m ≠ [] := by intro e; rw [e] at hlt; simp at hlt
          obtain ⟨bl, off, ha, hbl, hat⟩ := (HM2.out.below hb (Nat.le_refl _)).at hne
          subst ha
          obtain ⟨d0, d1, d2, d3, d4, d5, d6, d7⟩ := hat k x hx
          have HPS := Lib.hid (plainOf_succ hx)
          have hg1 : (0 : Int) ≤ k := by omega
          have hg2 : (k : Int) < m.length := by omega
          have hgw : IntKind.i64.wrap ((k : Int) + 1) = k + 1 := by rw [IntKind.wrap_i64]; omega
          clear hat hx hown hb
          rcases (by omega : x.kind = 0 ∨ x.kind = 4 ∨ (x.kind ≠ 0 ∧ x.kind ≠ 4)) with hk0 | hk4 | ⟨hk0, hk4⟩
          · have HPT : Hid (As.flat (plainOf m (k + 1)) = As.flat (plainOf m k) ++ [.int .i64 0, .int .i64 x.op, .int .i64 x.a, .int .i64 x.b, .int .i64 x.c, .int .i64 x.n, .int .i64 x.label, .int .i64 x.num] ∧ (plainOf m (k + 1)).length = (plainOf m k).length + 1) := by
              unfold Hid
              rw [HPS.out, if_pos (by simp [pk, hk0]), flat_append, List.length_append]
              refine ⟨?_, rfl⟩
              rw [← hk0]
              rfl
            rw [hk0] at d0
            go_wp2_with (first | (at_builtin; refine wpList_append_lies _ rfl (.tmp 60) (.tmp 62) 22 rfl w2.heap.size 35 i0 (.agg #[.int .i64 0, .int .i64 0, .int .i64 0, .int .i64 0, .int .i64 0, .int .i64 0, .int .i64 0, .int .i64 0]) 8 64 Try.underlying22 HI.out HZ0.out HZ1.out HZ2.out rfl (by decide) (.slice (some ⟨b, 0, none⟩) (plainOf m k).length c) (plainOf m k).length (As.flat (plainOf m k)) rfl ((HO.out.alloc _).alloc _) ⟨wr.heap.size + 1, 0, none⟩ 1 1 [.int .i64 0, .int .i64 x.op, .int .i64 x.a, .int .i64 x.b, .int .i64 x.c, .int .i64 x.n, .int .i64 x.label, .int .i64 x.num] rfl rfl (new_cells _ (heap_new (by simp))) (by simp [Value.oneCell']) (by decide) (by simp only [maxLen]; omega) (by omega) (by simp; omega) (wr.heap.size + 1 + 1) (by simp) ?_; intro g5 c5 w5 hown5 hgr5 hat5 hlt5; have HO5 := Lib.hid hown5; have HG5 := Lib.hid hgr5; clear hown5 hgr5 hat5) | fail)
            go_roundg (m.length - (k + 1))
            case measure => omega
            case rel => exact ⟨k + 1, g5, c5, by omega, rfl, by go_num, by rw [HPT.out.2], by rw [HPT.out.1, HPT.out.2]; exact HO5.out, ((HB.out.alloc hws _).alloc (by simp; omega) _).grown HG5.out (by simp; omega) (fun q hq => (HO.out.lt q hq).1)⟩
          · have HPT : Hid (As.flat (plainOf m (k + 1)) = As.flat (plainOf m k) ++ [.int .i64 4, .int .i64 x.op, .int .i64 x.a, .int .i64 x.b, .int .i64 x.c, .int .i64 x.n, .int .i64 x.label, .int .i64 x.num] ∧ (plainOf m (k + 1)).length = (plainOf m k).length + 1) := by
              unfold Hid
              rw [HPS.out, if_pos (by simp [pk, hk4]), flat_append, List.length_append]
              refine ⟨?_, rfl⟩
              rw [← hk4]
              rfl
            rw [hk4] at d0
            go_wp2_with (first | (at_builtin; refine wpList_append_lies _ rfl (.tmp 60) (.tmp 62) 22 rfl w2.heap.size 35 i0 (.agg #[.int .i64 0, .int .i64 0, .int .i64 0, .int .i64 0, .int .i64 0, .int .i64 0, .int .i64 0, .int .i64 0]) 8 64 Try.underlying22 HI.out HZ0.out HZ1.out HZ2.out rfl (by decide) (.slice (some ⟨b, 0, none⟩) (plainOf m k).length c) (plainOf m k).length (As.flat (plainOf m k)) rfl ((HO.out.alloc _).alloc _) ⟨wr.heap.size + 1, 0, none⟩ 1 1 [.int .i64 4, .int .i64 x.op, .int .i64 x.a, .int .i64 x.b, .int .i64 x.c, .int .i64 x.n, .int .i64 x.label, .int .i64 x.num] rfl rfl (new_cells _ (heap_new (by simp))) (by simp [Value.oneCell']) (by decide) (by simp only [maxLen]; omega) (by omega) (by simp; omega) (wr.heap.size + 1 + 1) (by simp) ?_; intro g5 c5 w5 hown5 hgr5 hat5 hlt5; have HO5 := Lib.hid hown5; have HG5 := Lib.hid hgr5; clear hown5 hgr5 hat5) | fail)
            go_roundg (m.length - (k + 1))
            case measure => omega
            case rel => exact ⟨k + 1, g5, c5, by omega, rfl, by go_num, by rw [HPT.out.2], by rw [HPT.out.1, HPT.out.2]; exact HO5.out, ((HB.out.alloc hws _).alloc (by simp; omega) _).grown HG5.out (by simp; omega) (fun q hq => (HO.out.lt q hq).1)⟩
          · have q0 := beq_eq_false_iff_ne.2 hk0
            have q4 := beq_eq_false_iff_ne.2 hk4
            have HPT : Hid (plainOf m (k + 1) = plainOf m k) := by unfold Hid; rw [HPS.out, if_neg (by simp [pk, hk0, hk4]), List.append_nil]
            go_wp2_with fail
            go_roundg (m.length - (k + 1))
            case measure => omega
            case rel => exact ⟨k + 1, b, c, by omega, rfl, by go_num, by rw [HPT.out], by rw [HPT.out]; exact HO.out.alloc _, HB.out.alloc hws _⟩
        · obtain rfl : k = m.length := by omega
          have hge : (m.length : Int) ≤ m.length := by omega
          have HMP := Lib.hid (plainOf_plain m m.length)
          clear hown hb
          generalize plainOf m m.length = M at *
          go_wp2_with fail
          have hM1 : M.length ≤ 1000 := by omega
          have HERR : Hid (As.err (l ++ M) = As.err M) := As.err_parts HE.out HMP.out hl1 hM1
          by_cases hf : As.err M = 0
          case neg =>
            obtain ⟨F, hF⟩ : ∃ F, As.err M = F := ⟨_, rfl⟩
            have hq2 : (F != 0) = true := by rw [bne_iff_ne, ← hF]; exact hf
            have HF := Lib.hid hf
            have HFF := Lib.hid hF
            clear hf hF
            with_reducible refine (assemble_room (some ⟨b, 0, none⟩) c M _ (isl_own HO.out) (by omega)).mono ?_
            intro e w3 h3
            obtain ⟨hb3, rfl⟩ := h3.bad HF.out
            rw [HFF.out]
            have HO3 := Lib.hid (own_keep21 HO.out hb3)
            have HB3 := Lib.hid (HB.out.trans (hb3.mono hws))
            have HL3 := Lib.hid (HL2.out.below (HB3.out.alloc HB3.out.size (.cells #[] 35)) (Nat.le_refl _))
            clear h3 hb3
            go_wp2_with (first | (at_builtin; refine wpList_append_g rfl (.tmp 71) (.tmp 72) 22 rfl w3.heap.size 35 i0 (.agg #[.int .i64 0, .int .i64 0, .int .i64 0, .int .i64 0, .int .i64 0, .int .i64 0, .int .i64 0, .int .i64 0]) 8 64 Try.underlying22 HI.out HZ0.out HZ1.out HZ2.out rfl (by decide) (.slice (some ⟨w3.heap.size, 0, none⟩) 0 0) 0 [] rfl (World.ownsRow_lit w3 #[] 0 (Nat.le_refl _) (Nat.zero_le _) rfl) al l.length cl (As.flat l) rfl (flat_length l) (isl_src HL3.out HAL.out) (flat_one l) (by simp only [maxLen]; omega) (by omega) (by simp) ?_; intro v5 w5 ho5 hg5; have HO5 := Lib.hid ho5; have HB5 := Lib.hid (((Below.refl w3.heap.size w3).alloc (Nat.le_refl _) _).grown hg5 (by simp) (fun q hq => by simp [Value.ownBlock] at hq; omega)); have HM5 := Lib.hid (own_keep21 HO3.out HB5.out); clear ho5 hg5) | (at_builtin; refine wpList_append_g rfl (.tmp 73) (.tmp 74) 22 rfl w3.heap.size 35 i0 (.agg #[.int .i64 0, .int .i64 0, .int .i64 0, .int .i64 0, .int .i64 0, .int .i64 0, .int .i64 0, .int .i64 0]) 8 64 Try.underlying22 HI.out HZ0.out HZ1.out HZ2.out rfl (by decide) v5 (0 + l.length) ([] ++ As.flat l) rfl HO5.out (some ⟨b, 0, none⟩) M.length c (As.flat M) rfl (flat_length M) (.inr ⟨_, rfl, HM5.out.cells rfl⟩) (flat_one M) (by simp only [maxLen]; omega) (by omega) HB5.out.size ?_; intro v6 w6 ho6 hg6; have HO6 := Lib.hid ho6; have HB6 := Lib.hid (HB5.out.grown hg6 HB5.out.size (fun q hq => (HO5.out.lt q hq).1)); clear ho6 hg6) | fail)
            have HL6 : Hid (ISl w6 v6 (l ++ M)) := by
              unfold Hid
              refine isl_own (B := w3.heap.size) ?_
              have h := HO6.out
              rw [List.nil_append, ← flat_append, Nat.zero_add, ← List.length_append] at h
              exact h
            obtain ⟨a6, c6, hv6, -⟩ := own_form HO6.out
            subst hv6
            have hlm : 0 + l.length + M.length = (l ++ M).length := by simp
            rw [hlm] at HL6
            have HASM := assemble_room a6 c6 (l ++ M) w6 HL6.out (by rw [← hlm]; omega)
            rw [← hlm] at HASM
            have HAS := Lib.hid HASM
            have HB6' := Lib.hid (HB3.out.trans (HB6.out.mono HB3.out.size))
            clear HASM hlm
            with_reducible refine HAS.out.mono ?_
            intro e w7 h7
            obtain ⟨hb7, rfl⟩ := h7.bad (by rw [HERR.out]; exact HF.out)
            rw [HERR.out, HFF.out]
            have HB7 := Lib.hid (HB6'.out.trans (hb7.mono HB6'.out.size))
            clear h7 hb7
            go_wp2_with fail
            go_ret
            exact ⟨rfl, B2.out.trans (HB7.out.mono hw2)⟩
          case pos =>
            have HF := Lib.hid hf
            have hcl2 : (As.code M).length ≤ 262144 := by have := As.cod_len (As.good_of hf).may M.length (As.good_of hf).len; rw [As.cod_full] at this; exact this
            clear hf
            with_reducible refine (assemble_room (some ⟨b, 0, none⟩) c M _ (isl_own HO.out) (by omega)).mono ?_
            intro e w3 h3
            obtain ⟨hb3, ac3, cc3, pb3, rfl, hc3, hp3⟩ := h3.ok HF.out
            have HO3 := Lib.hid (own_keep21 HO.out hb3)
            have HB3 := Lib.hid (HB.out.trans (hb3.mono hws))
            have HL3 := Lib.hid (HL2.out.below (HB3.out.alloc HB3.out.size (.cells #[] 35)) (Nat.le_refl _))
            have HC3 := Lib.hid hc3
            have HP3 := Lib.hid hp3
            clear h3 hb3 hc3 hp3
            go_wp2_with (first | (at_builtin; refine wpList_append_g rfl (.tmp 71) (.tmp 72) 22 rfl w3.heap.size 35 i0 (.agg #[.int .i64 0, .int .i64 0, .int .i64 0, .int .i64 0, .int .i64 0, .int .i64 0, .int .i64 0, .int .i64 0]) 8 64 Try.underlying22 HI.out HZ0.out HZ1.out HZ2.out rfl (by decide) (.slice (some ⟨w3.heap.size, 0, none⟩) 0 0) 0 [] rfl (World.ownsRow_lit w3 #[] 0 (Nat.le_refl _) (Nat.zero_le _) rfl) al l.length cl (As.flat l) rfl (flat_length l) (isl_src HL3.out HAL.out) (flat_one l) (by simp only [maxLen]; omega) (by omega) (by simp) ?_; intro v5 w5 ho5 hg5; have HO5 := Lib.hid ho5; have HB5 := Lib.hid (((Below.refl w3.heap.size w3).alloc (Nat.le_refl _) _).grown hg5 (by simp) (fun q hq => by simp [Value.ownBlock] at hq; omega)); have HM5 := Lib.hid (own_keep21 HO3.out HB5.out); clear ho5 hg5) | (at_builtin; refine wpList_append_g rfl (.tmp 73) (.tmp 74) 22 rfl w3.heap.size 35 i0 (.agg #[.int .i64 0, .int .i64 0, .int .i64 0, .int .i64 0, .int .i64 0, .int .i64 0, .int .i64 0, .int .i64 0]) 8 64 Try.underlying22 HI.out HZ0.out HZ1.out HZ2.out rfl (by decide) v5 (0 + l.length) ([] ++ As.flat l) rfl HO5.out (some ⟨b, 0, none⟩) M.length c (As.flat M) rfl (flat_length M) (.inr ⟨_, rfl, HM5.out.cells rfl⟩) (flat_one M) (by simp only [maxLen]; omega) (by omega) HB5.out.size ?_; intro v6 w6 ho6 hg6; have HO6 := Lib.hid ho6; have HB6 := Lib.hid (HB5.out.grown hg6 HB5.out.size (fun q hq => (HO5.out.lt q hq).1)); clear ho6 hg6) | fail)
            have HL6 : Hid (ISl w6 v6 (l ++ M)) := by
              unfold Hid
              refine isl_own (B := w3.heap.size) ?_
              have h := HO6.out
              rw [List.nil_append, ← flat_append, Nat.zero_add, ← List.length_append] at h
              exact h
            obtain ⟨a6, c6, hv6, -⟩ := own_form HO6.out
            subst hv6
            have hlm : 0 + l.length + M.length = (l ++ M).length := by simp
            rw [hlm] at HL6
            have HASM := assemble_room a6 c6 (l ++ M) w6 HL6.out (by rw [← hlm]; omega)
            rw [← hlm] at HASM
            have HAS := Lib.hid HASM
            have HB6' := Lib.hid (HB3.out.trans (HB6.out.mono HB3.out.size))
            clear HASM hlm
            with_reducible refine HAS.out.mono ?_
            intro e w7 h7
            obtain ⟨hb7, ac7, cc7, pb7, rfl, hc7, hp7⟩ := h7.ok (by rw [HERR.out]; exact HF.out)
            have HCP : Hid (As.code (l ++ M) = As.code l ++ As.code M) := As.code_parts HMP.out
            rw [HCP.out] at hc7
            rw [HCP.out, List.length_append, List.length_append]
            rw [List.length_append] at hc7 hp7
            have HPP : Hid (As.places0 (l ++ M) = As.places0 l ++ (As.places0 M).map (· + (As.code l).length)) := As.places0_parts HG.out HMP.out
            have HB7 := Lib.hid (HB6'.out.trans (hb7.mono HB6'.out.size))
            have HB37 := Lib.hid (HB6.out.trans (hb7.mono HB6.out.size))
            have HC7 := Lib.hid hc7
            have HP7 := Lib.hid hp7
            have HCL := Lib.hid (HC2.out.below (HB7.out.alloc HB7.out.size (.cells #[] 38)) (Nat.le_refl _))
            have HCM := Lib.hid (HC3.out.below HB37.out (Nat.le_refl _))
            clear h7 hb7 hc7 hp7
            go_wp2_with (first | (refine wpList_append_g rfl (.tmp 104) (.tmp 105) 24 rfl w7.heap.size 38 u0 (.int .u32 0) 1 4 Try.underlying24 HU.out HU0.out HU1.out HU2.out rfl (by decide) (.slice (some ⟨w7.heap.size, 0, none⟩) 0 0) 0 [] rfl (World.ownsRow_lit w7 #[] 0 (Nat.le_refl _) (Nat.zero_le _) rfl) ac (As.code l).length cc ((As.code l).map (Value.int .u32)) rfl (by rw [List.length_map, Nat.mul_one]) HCL.out.source (by intro u hu; obtain ⟨z, _, rfl⟩ := List.mem_map.1 hu; rfl) (by simp only [maxLen]; omega) (by omega) (by simp) ?_; intro v8 w8 ho8 hg8; have HO8 := Lib.hid ho8; have HB8 := Lib.hid (((Below.refl w7.heap.size w7).alloc (Nat.le_refl _) _).grown hg8 (by simp) (fun q hq => by simp [Value.ownBlock] at hq; omega)); have HCM8 := Lib.hid (HCM.out.below HB8.out (Nat.le_refl _)); clear ho8 hg8) | (refine wpList_append_g rfl (.tmp 106) (.tmp 107) 24 rfl w7.heap.size 38 u0 (.int .u32 0) 1 4 Try.underlying24 HU.out HU0.out HU1.out HU2.out rfl (by decide) v8 (0 + (As.code l).length) ([] ++ (As.code l).map (Value.int .u32)) rfl HO8.out ac3 (As.code M).length cc3 ((As.code M).map (Value.int .u32)) rfl (by rw [List.length_map, Nat.mul_one]) HCM8.out.source (by intro u hu; obtain ⟨z, _, rfl⟩ := List.mem_map.1 hu; rfl) (by simp only [maxLen]; omega) (by omega) HB8.out.size ?_; intro v9 w9 ho9 hg9; have HO9 := Lib.hid ho9; have HB9 := Lib.hid (HB8.out.grown hg9 HB8.out.size (fun q hq => (HO8.out.lt q hq).1)); clear ho9 hg9) | fail)
            obtain ⟨a9, c9, hv9, -⟩ := own_form HO9.out
            subst hv9
            have HS9 : Hid (Sl w9 (.slice a9 (0 + (As.code l).length + (As.code M).length) c9) ((As.code l ++ As.code M).map (Value.int .u32))) := by
              unfold Hid
              have h := Sl.own HO9.out
              rw [List.nil_append] at h
              rw [List.map_append]
              exact h
            have HC9 := Lib.hid (HC7.out.below HB9.out (Nat.le_refl _))
            have HP9 := Lib.hid (HP7.out.below HB9.out (Nat.le_refl _))
            have HB39 := Lib.hid (HB37.out.trans (HB9.out.mono HB37.out.size))
            have HQ9 := Lib.hid (HP3.out.below HB39.out (Nat.le_refl _))
            have HB29 := Lib.hid (HB7.out.trans (HB9.out.mono HB7.out.size))
            have HR9 := Lib.hid (HP2.out.below HB29.out (Nat.le_refl _))
            clear HC7 HP7 HP3 HCL HCM HCM8 HO8 HO9 HO6 HO5 HM5
            with_reducible refine (same21n (As.code l ++ As.code M) ac7 a9 cc7 c9 _ _ _ (by simp) (by simp) HC9.out HS9.out (by simp; omega)).mono ?_
            rintro e w10 ⟨rfl, nd, rfl⟩
            go_wp2_with fail
            go_loopg [17] M.length (fun gk i wx => ∃ (j nn : Nat), j ≤ M.length ∧ gk = M.length - j ∧ i = .int .i64 j ∧ wx = w9.drewN nn)
            case atStart => exact ⟨0, nd, Nat.zero_le _, rfl, rfl, rfl⟩
            case round =>
              obtain ⟨j, nn, hj, rfl, rfl, rfl⟩ := hrel
              by_cases hjl : j < M.length
              · obtain ⟨p, hp⟩ : ∃ p, (As.places0 M)[j]? = some p := ⟨_, List.getElem?_eq_getElem (by rw [As.places0_length]; exact hjl)⟩
                have hpb := As.places_le (As.longs M) (l := M) (by omega) p (List.mem_of_getElem? hp)
                have q1 : w9.cell? ⟨pb3, j, none⟩ = some (.int .i64 (p : Int)) := HQ9.out.get (by simp [nums, hp])
                have q2 : w9.cell? ⟨pb7, l.length + j, none⟩ = some (.int .i64 ((p : Int) + ((As.code l).length : Nat))) := by
                  refine HP9.out.get ?_
                  rw [HPP.out, nums, List.getElem?_map, List.getElem?_append_right (by rw [As.places0_length]; omega), As.places0_length, Nat.add_sub_cancel_left, List.getElem?_map, hp]
                  simp
                have hg1 : (0 : Int) ≤ j := by omega
                have hg2 : (j : Int) < M.length := by omega
                have hg3 : (0 : Int) ≤ (l.length : Int) + j := by omega
                have hg4 : (l.length : Int) + j < (l.length : Int) + M.length := by omega
                have hgw : IntKind.i64.wrap ((j : Int) + 1) = j + 1 := by rw [IntKind.wrap_i64]; omega
                have hgs1 : IntKind.i64.wrap ((l.length : Int) + j) = (l.length : Int) + j := by rw [IntKind.wrap_i64]; omega
                have hgs2 : IntKind.i64.wrap ((p : Int) + ((As.code l).length : Nat)) = (p : Int) + ((As.code l).length : Nat) := by rw [IntKind.wrap_i64]; omega
                have hgs3 : ((l.length : Int) + j).toNat = l.length + j := by omega
                clear hp
                go_wp2_with fail
                go_quiet (fail)
                go_wp2_with fail
                go_roundg (M.length - (j + 1))
                case measure => omega
                case rel => exact ⟨j + 1, _, by omega, rfl, by go_num, rfl⟩
              · obtain rfl : j = M.length := by omega
                have hgej : (M.length : Int) ≤ M.length := by omega
                have hg1 : (0 : Int) ≤ l.length := by omega
                have hg2 : (l.length : Int) ≤ (l.length : Int) + M.length := by omega
                have HS1 : Hid (Sl (w9.drewN nn) (.slice (some ⟨pb7, 0, none⟩) l.length (l.length + M.length)) (((As.places0 l).map fun (p : Nat) => (p : Int)).map (Value.int .i64))) := by
                  refine ⟨some ⟨pb7, 0, none⟩, _, by rw [List.length_map, List.length_map, As.places0_length], .inr ⟨⟨pb7, 0, none⟩, rfl, fun q u hq => ?_⟩⟩
                  rw [Go.WideShapes.add_plain, Nat.zero_add]
                  refine (HP9.out.drewN nn).get ?_
                  have hql : q < (As.places0 l).length := by
                    have := (List.getElem?_eq_some_iff.1 hq).1
                    simpa using this
                  rw [HPP.out, nums, List.getElem?_map, List.getElem?_append_left hql]
                  simpa using hq
                have HS2 : Hid (Sl (w9.drewN nn) (.slice (some ⟨pb, 0, none⟩) l.length l.length) (((As.places0 l).map fun (p : Nat) => (p : Int)).map (Value.int .i64))) := by
                  have h := HR9.out.drewN nn
                  rw [nums_map] at h
                  exact h
                go_wp2_with fail
                with_reducible refine (same17n ((As.places0 l).map fun (p : Nat) => (p : Int)) _ _ _ _ _ _ _ (by simp [As.places0_length]) (by simp [As.places0_length]) HS1.out HS2.out (by simp [As.places0_length]; omega)).mono ?_
                rintro e w11 ⟨rfl, nd2, rfl⟩
                go_wp2_with fail
                go_ret
                exact ⟨rfl, below_drewN (B2.out.trans (HB29.out.mono hw2)) _⟩
end Go.Proofs.Ytbcpflogkniojaa
