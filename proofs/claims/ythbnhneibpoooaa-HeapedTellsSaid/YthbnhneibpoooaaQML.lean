/- The laws' view of a heap: the things it has, and the law's own blocks. -/
import Derived.Test.YthbnhneibpoooaaQMK
set_option linter.unusedVariables false
set_option linter.unusedSimpArgs false
set_option linter.unnecessarySimpa false
namespace Go.Proofs.Ythbnhneibpoooaa
open Go.RowKit
set_option linter.unusedVariables false
set_option linter.unusedSimpArgs false
set_option linter.unnecessarySimpa false
structure LwO (w0 w : World) (h : Nat) (O : Nat → Prop) (T : List Hp.Th) (L : List (Nat × Obj)) : Prop where
  st : HSt w 65 h O T
  lo : ∀ b, O b → w0.heap.size ≤ b
  below : Below w0.heap.size w0 w
  loc : ∀ x ∈ L, w.heap[x.1]? = some x.2 ∧ ¬ O x.1 ∧ w0.heap.size ≤ x.1
  apart : L.Pairwise fun a b => a.1 ≠ b.1
/-- Behind the world w0 there is a heap at h with the things T; the law's own blocks are L. -/
def Lw (w0 w : World) (h : Nat) (T : List Hp.Th) (L : List (Nat × Obj)) : Prop := ∃ O, LwO w0 w h O T L
section
variable {w0 w : World} {h : Nat} {T : List Hp.Th} {L : List (Nat × Obj)}
theorem Lw.bel {w' : World} (H : Lw w0 w h T L) (hb : Below w.heap.size w w') : Lw w0 w' h T L := by
  obtain ⟨O, H⟩ := H
  exact ⟨O, H.st.below hb (Nat.le_refl _), H.lo, H.below.trans (hb.mono H.below.size), fun x hx => ⟨(hb.block _ (Array.getElem?_eq_some_iff.1 (H.loc x hx).1).1).trans (H.loc x hx).1, (H.loc x hx).2⟩, H.apart⟩
theorem Lw.new (H : Lw w0 w h T L) (o : Obj) {s : Nat} (hs : w.heap.size = s) : Lw w0 (w.alloc o) h T ((s, o) :: L) := by
  subst hs
  obtain ⟨O, H1⟩ := H.bel ((Below.refl _ _).alloc (Nat.le_refl _) o)
  obtain ⟨O', H2⟩ := H
  have hO : ∀ b, O' b → b < w.heap.size := H2.st.lt
  refine ⟨O', H2.st.below ((Below.refl _ _).alloc (Nat.le_refl _) o) (Nat.le_refl _), H2.lo, H1.below, fun x hx => ?_, List.pairwise_cons.2 ⟨fun x hx e => by have := (Array.getElem?_eq_some_iff.1 (H2.loc x hx).1).1; dsimp only at e; omega, H2.apart⟩⟩
  rcases List.mem_cons.1 hx with rfl | hx
  · exact ⟨heap_alloc_new w o, fun e => by have := hO _ e; omega, H2.below.size⟩
  · exact ⟨(H1.loc x hx).1, (H2.loc x hx).2⟩
theorem Lw.tail {x : Nat × Obj} (H : Lw w0 w h T (x :: L)) : Lw w0 w h T L := by
  obtain ⟨O, H⟩ := H
  exact ⟨O, H.st, H.lo, H.below, fun y hy => H.loc y (List.mem_cons_of_mem _ hy), (List.pairwise_cons.1 H.apart).2⟩
theorem Lw.perm {L' : List (Nat × Obj)} (H : Lw w0 w h T L) (hp : L.Perm L') : Lw w0 w h T L' := by
  obtain ⟨O, H⟩ := H
  exact ⟨O, H.st, H.lo, H.below, fun y hy => H.loc y (hp.mem_iff.2 hy), (hp.pairwise_iff (fun e e' => e e'.symm)).1 H.apart⟩
theorem Lw.front2 {x y : Nat × Obj} (H : Lw w0 w h T (x :: y :: L)) : Lw w0 w h T (y :: x :: L) := H.perm (List.Perm.swap ..)
theorem Lw.front3 {x y z : Nat × Obj} (H : Lw w0 w h T (x :: y :: z :: L)) : Lw w0 w h T (z :: x :: y :: L) := H.perm (((List.Perm.swap z y L).cons x).trans (List.Perm.swap ..))
theorem Lw.drop2 {x y : Nat × Obj} (H : Lw w0 w h T (x :: y :: L)) : Lw w0 w h T (x :: L) := H.front2.tail
theorem Lw.drop3 {x y z : Nat × Obj} (H : Lw w0 w h T (x :: y :: z :: L)) : Lw w0 w h T (x :: y :: L) := H.front3.tail
/-- A store into the first of the law's own blocks. -/
theorem Lw.set {b : Nat} {cs : Array Value} {t : TypeId} (H : Lw w0 w h T ((b, .cells cs t (0, 0)) :: L)) (i : Nat) (v : Value) : Lw w0 (w.setCell ⟨b, i, none⟩ v) h T ((b, .cells (cs.setIfInBounds i v) t (0, 0)) :: L) := by
  obtain ⟨O, H⟩ := H
  obtain ⟨hb, hO, hlo⟩ := H.loc (b, .cells cs t (0, 0)) (List.mem_cons_self ..)
  have hap := (List.pairwise_cons.1 H.apart).1
  have hsize : (w.setCell ⟨b, i, none⟩ v).heap.size = w.heap.size := by simp [World.setCell]
  have hoth : ∀ k, k ≠ b → (w.setCell ⟨b, i, none⟩ v).heap[k]? = w.heap[k]? := fun k hk => heap_setCell_other _ _ _ _ hk
  refine ⟨O, H.st.keep (by rw [hsize]; exact Nat.le_refl _) fun k hk => hoth k fun e => hO (e ▸ hk), H.lo, H.below.setCell (p := ⟨b, i, none⟩) hlo _, fun x hx => ?_, List.pairwise_cons.2 ⟨hap, (List.pairwise_cons.1 H.apart).2⟩⟩
  rcases List.mem_cons.1 hx with rfl | hx
  · exact ⟨heap_setCell_same _ b i _ _ v hb, hO, hlo⟩
  · exact ⟨(hoth _ (fun e => hap x hx e.symm)).trans (H.loc x (List.mem_cons_of_mem _ hx)).1, (H.loc x (List.mem_cons_of_mem _ hx)).2⟩
theorem Lw.set3 {b : Nat} {p q r : Value} {t : TypeId} (H : Lw w0 w h T ((b, .cells #[p, q, r] t (0, 0)) :: L)) (x y z : Value) : Lw w0 (((w.setCell ⟨b, 0, none⟩ x).setCell ⟨b, 1, none⟩ y).setCell ⟨b, 2, none⟩ z) h T ((b, .cells #[x, y, z] t (0, 0)) :: L) := ((H.set 0 x).set 1 y).set 2 z
theorem Lw.find (H : Lw w0 w h T L) {b : Nat} {o : Obj} (hx : (b, o) ∈ L) : w.heap[b]? = some o ∧ b < w.heap.size ∧ w0.heap.size ≤ b := by
  obtain ⟨O, H⟩ := H
  have := H.loc _ hx
  exact ⟨this.1, (Array.getElem?_eq_some_iff.1 this.1).1, this.2.2⟩
theorem Lw.below (H : Lw w0 w h T L) : Below w0.heap.size w0 w := by
  obtain ⟨O, H⟩ := H
  exact H.below
theorem Lw.cells (H : Lw w0 w h T L) {b : Nat} {cs : Array Value} {t : TypeId} (hx : (b, Obj.cells cs t (0, 0)) ∈ L) (i : Nat) : w.cell? ⟨b, i, none⟩ = cs[i]? := cell_of_row w b i _ _ _ (H.find hx).1
theorem Lw.init {w0 w : World} (hb : Below w0.heap.size w0 w) : Lw w0 (w.alloc (.cells #[.slice none 0 0] 65)) w.heap.size [] [] := by
  refine ⟨fun b => b = w.heap.size, ⟨.slice none 0 0, [], ⟨heap_new rfl, World.ownsRow_nil _ _ _ _, by simp, by simp [Value.ownBlock], by simp, by simp, by simp, ⟨rfl, by simp [Value.ownBlock], by simp⟩, fun b e => by simp [e]⟩, rfl⟩, fun b e => by have := hb.size; omega, hb.alloc hb.size _, by simp, List.Pairwise.nil⟩
theorem hflat_length (l : List Hp.V) : (Hp.flatV l).length = l.length * 3 := Hp.flatV_length l
theorem vsl_new (w : World) (l : List Hp.V) (cs : Array Value) (hcs : cs = (Hp.flatV l).toArray) (t : TypeId) : VSl (w.alloc (.cells cs t)) (.slice (some ⟨w.heap.size, 0, none⟩) l.length l.length) l := by
  subst hcs
  refine ⟨_, _, rfl, .inr ⟨_, rfl, fun j u hu => ?_⟩⟩
  rw [Addr.add_mid, Nat.zero_add, cell_of_row _ _ _ _ _ _ (heap_alloc_new w _)]
  simpa using hu
/-- What a call of the heap leaves for the law. -/
def LwPost (w0 : World) (h : Nat) (T : List Hp.Th) (L : List (Nat × Obj)) (r : Hp.V) (er : Int) (W : World) (e : Ending) (w' : World) : Prop :=
  e = .returned (.tuple #[.agg #[.int .i64 r.kind, .int .i64 r.int, .string r.text], .int .i64 er]) ∧ Lw w0 w' h T L ∧ W.heap.size ≤ w'.heap.size
theorem Lw.post {O : Nat → Prop} {T' : List Hp.Th} {r : Hp.V} {er : Int} {e : Ending} {w' : World} (H : LwO w0 w h O T L) (hp : DoPost 65 h O r er T' w e w') : LwPost w0 h T' L r er w e w' := by
  obtain ⟨O', he, h1, h2⟩ := hp
  refine ⟨he, ⟨O', h1, fun b hb => ?_, H.below.trans (h2.below H.lo H.below.size), fun x hx => ?_, H.apart⟩, h2.size⟩
  · rcases h2.own b hb with e | e
    · exact H.lo b e
    · exact Nat.le_trans H.below.size e
  · obtain ⟨g1, g2, g3⟩ := H.loc x hx
    have hlt := (Array.getElem?_eq_some_iff.1 g1).1
    exact ⟨(h2.block _ hlt g2).trans g1, fun e => by
      rcases h2.own _ e with e | e
      · exact g2 e
      · omega, g3⟩
/-- A call of the heap on a row of arguments of the law's own. -/
theorem Lw.call (H : Lw w0 w h T L) (f : Nat) (args : Array Value) (l : List Hp.V) (cs : Array Value) (hcs : cs = (Hp.flatV l).toArray) (T' : List Hp.Th) (r : Hp.V) (er : Int) {s n : Nat} (hs : (s, Obj.cells cs 27 (0, 0)) ∈ L) (hn : l.length = n)
    (hU : ∀ (O : Nat → Prop), HSt w 65 h O T → VSl w (.slice (some ⟨s, 0, none⟩) n n) l → Hp.free O (.slice (some ⟨s, 0, none⟩) n n) → Calls Try.prog f args w (DoPost 65 h O r er T' w)) :
    Calls Try.prog f args w (LwPost w0 h T' L r er w) := by
  subst hn
  obtain ⟨O, H⟩ := H
  obtain ⟨h1, h2, h3⟩ := H.loc _ hs
  subst hcs
  refine (hU O H.st ⟨_, _, rfl, .inr ⟨_, rfl, fun j u hu => ?_⟩⟩ fun b e => ?_).mono fun e w' hp => Lw.post H hp
  · rw [Addr.add_mid, Nat.zero_add, cell_of_row _ _ _ _ _ _ h1]
    simpa using hu
  · simp [Value.ownBlock] at e
    rw [← e]
    exact h2
end
theorem new_any (w : World) : Calls Try.prog 9 #[] w fun e w' => e = .returned (.pointer (some ⟨w.heap.size, 0, none⟩)) ∧ w' = w.alloc (.cells #[.slice none 0 0] 65) := by
  go_enter Try.func9, Try.ntmps9
  go_wp2_with fail
  go_ret
  exact ⟨rfl, rfl⟩
theorem num_any (n : Int) (w : World) : Calls Try.prog 12 #[.int .i64 n] w fun e w' => e = .returned (.agg #[.int .i64 1, .int .i64 n, .string ⟨#[]⟩]) ∧ Below w.heap.size w w' := by
  go_enter Try.func12, Try.ntmps12
  go_wp2_with fail
  refine bodyPost_ret (res1 rfl _ _ w.heap.size 27 _ (0, 0) rfl (heap_new (by simp)) valD valSize) rfl ?_
  exact ⟨rfl, (Below.refl _ _).alloc (Nat.le_refl _) _⟩
theorem count_any {w0 w : World} {h : Nat} {T : List Hp.Th} {L : List (Nat × Obj)} (H : Lw w0 w h T L) : Calls Try.prog 13 #[.pointer (some ⟨h, 0, none⟩)] w fun e w' => e = .returned (.int .i64 T.length) ∧ w = w' := by
  obtain ⟨O, H⟩ := H
  obtain ⟨vt, M, HA, rfl⟩ := H.st
  have hc := HA.c0
  obtain ⟨a, c, rfl⟩ := HA.shape
  rw [List.length_map]
  clear HA H
  go_enter Try.func13, Try.ntmps13
  go_wp2_with fail
  go_ret
  exact ⟨rfl, rfl⟩
end Go.Proofs.Ythbnhneibpoooaa
/- The law's fixed calls of the heap. -/
namespace Go.Proofs.Ythbnhneibpoooaa
open Go.RowKit
set_option linter.unusedVariables false
set_option linter.unusedSimpArgs false
set_option linter.unnecessarySimpa false
section
variable {w0 w : World} {h : Nat} {T : List Hp.Th} {L : List (Nat × Obj)}
theorem lw_cons (H : Lw w0 w h T L) (x y r : Hp.V) (hT : T.length ≤ 1000000) (hx : Hp.may T.length x = true) (hy : Hp.may T.length y = true) (hr : r = ⟨8, T.length, ⟨#[]⟩⟩) {T' : List Hp.Th} (hT' : T ++ [⟨0, [x, y]⟩] = T') {s : Nat} (hs : (s, Obj.cells #[.int .i64 x.kind, .int .i64 x.int, .string x.text, .int .i64 y.kind, .int .i64 y.int, .string y.text] 27 (0, 0)) ∈ L) :
    Calls Try.prog 11 #[.pointer (some ⟨h, 0, none⟩), .string ⟨#[99, 111, 110, 115]⟩, .slice (some ⟨s, 0, none⟩) 2 2] w (LwPost w0 h T' L r 0 w) := by
  subst hr
  subst hT'
  refine H.call _ _ [x, y] _ rfl _ _ _ hs rfl fun O h1 h2 h3 => use_cons h1 x y _ h2 h3 hT ?_ ?_
  · intro v hv
    simp at hv
    rcases hv with rfl | rfl
    · exact hx
    · exact hy
  · intro v hv
    simp at hv
    rcases hv with rfl | rfl
    · exact hp_text hx
    · exact hp_text hy
theorem lw_car (H : Lw w0 w h T L) (k : Nat) (kk : Int) (hkk : kk = k) {t : Hp.Th} (hk : T[k]? = some t) (h0 : t.kind = 0) (hl : t.parts.length ≤ 1000000) (r : Hp.V) (hr : t.parts[0]? = some r) {s : Nat} (hs : (s, Obj.cells #[.int .i64 8, .int .i64 kk, .string ⟨#[]⟩] 27 (0, 0)) ∈ L) :
    Calls Try.prog 11 #[.pointer (some ⟨h, 0, none⟩), .string ⟨#[99, 97, 114]⟩, .slice (some ⟨s, 0, none⟩) 1 1] w (LwPost w0 h T L r 0 w) := by
  subst hkk
  exact H.call _ _ [⟨8, k, ⟨#[]⟩⟩] _ rfl _ _ _ hs rfl fun O h1 h2 h3 => use_get h1 hk h0 hl r hr _ h2 h3
theorem lw_quot (H : Lw w0 w h T L) (a b : Int) (ha : isN a = true) (hb : isN b = true) (r : Hp.V) (er : Int) (hr : Hp.reckF 3 a b = (r, er)) {s : Nat} (hs : (s, Obj.cells #[.int .i64 1, .int .i64 a, .string ⟨#[]⟩, .int .i64 1, .int .i64 b, .string ⟨#[]⟩] 27 (0, 0)) ∈ L) :
    Calls Try.prog 11 #[.pointer (some ⟨h, 0, none⟩), .string ⟨#[113, 117, 111, 116, 105, 101, 110, 116]⟩, .slice (some ⟨s, 0, none⟩) 2 2] w (LwPost w0 h T L r er w) := by
  have e1 : (Hp.reckF 3 a b).1 = r := by rw [hr]
  have e2 : (Hp.reckF 3 a b).2 = er := by rw [hr]
  subst e1
  subst e2
  exact H.call _ _ [⟨1, a, ⟨#[]⟩⟩, ⟨1, b, ⟨#[]⟩⟩] _ rfl _ _ _ hs rfl fun O h1 h2 h3 => use_quot h1 a b _ h2 ha hb
theorem lw_bad (H : Lw w0 w h T L) (x : Hp.Row) (hx : x ∈ Hp.tab) (l : List Hp.V) (cs : Array Value) (hcs : cs = (Hp.flatV l).toArray) (hlen : l.length ≤ 1000000) (ht : ∀ v ∈ l, v.text.size ≤ maxLen) (hm : l.all (Hp.may T.length) = false) (p : ByteArray) (hp : x.name = p) {s n : Nat} (hs : (s, Obj.cells cs 27 (0, 0)) ∈ L) (hn : l.length = n) :
    Calls Try.prog 11 #[.pointer (some ⟨h, 0, none⟩), .string p, .slice (some ⟨s, 0, none⟩) n n] w (LwPost w0 h T L Hp.none 1 w) := by
  subst hp
  exact H.call _ _ l cs hcs _ _ _ hs hn fun O h1 h2 h3 => use_bad h1 x hx _ l h2 hlen ht hm
/-- What the law's Tell leaves. -/
def LwTell (w0 : World) (h : Nat) (T : List Hp.Th) (L : List (Nat × Obj)) (r : Option Dt) (W : World) (e : Ending) (w' : World) : Prop :=
  ∃ (d : Dt) (a : Option Addr) (c : Nat), e = .returned (.tuple #[.agg #[.int .i64 d.kind, .int .i64 d.int, .string d.text, .slice a d.list.length c], .bool r.isSome]) ∧ DtAt w' (fun b => W.heap.size ≤ b) (.agg #[.int .i64 d.kind, .int .i64 d.int, .string d.text, .slice a d.list.length c]) d ∧ d = r.getD (.mk 0 0 ⟨#[]⟩ []) ∧ Lw w0 w' h T L ∧ W.heap.size ≤ w'.heap.size ∧ Below W.heap.size W w'
theorem lw_tell (H : Lw w0 w h T L) (hW : Hp.WfT T) (v : Hp.V) (ht : v.text.size ≤ maxLen) : Calls Try.prog 18 #[.pointer (some ⟨h, 0, none⟩), .agg #[.int .i64 v.kind, .int .i64 v.int, .string v.text]] w (LwTell w0 h T L (Hp.tellT T v) w) := by
  obtain ⟨O, H1⟩ := id H
  refine (Tell_any v w H1.st hW ht).mono ?_
  rintro e w' ⟨d, a, c, he, hd, hb, hr⟩
  exact ⟨d, a, c, he, hd, hr, H.bel hb, hb.size, hb⟩
end
def fxT : List Hp.Th := [⟨0, [⟨1, 1, ⟨#[]⟩⟩, ⟨1, 2, ⟨#[]⟩⟩]⟩]
theorem fx_wf : Hp.WfT fxT := by
  refine ⟨?_, ?_, ?_, ?_, ?_⟩ <;> intro t ht <;> simp [fxT] at ht <;> subst ht
  · exact .inl rfl
  · intro _; rfl
  · intro e; simp at e
  · simp
  · intro p hp
    simp at hp
    rcases hp with rfl | rfl <;> decide +kernel
theorem fx_told : Hp.tellT fxT ⟨8, 0, ⟨#[]⟩⟩ = some (.mk 6 0 ⟨#[]⟩ [.mk 1 1 ⟨#[]⟩ [], .mk 1 2 ⟨#[]⟩ []]) := by
  have hm : Hp.may fxT.length ⟨8, 0, ⟨#[]⟩⟩ = true := by decide +kernel
  rw [Hp.tellT, if_pos hm]
  rfl
def fxD : Dt := .mk 6 0 ⟨#[]⟩ [.mk 1 1 ⟨#[]⟩ [], .mk 1 2 ⟨#[]⟩ []]
theorem fx_short : Dt.Short fxD := Dt.short_of (by simp [fxD, Dt.nodes, Dt.nodess])
theorem fx_want (w : World) {s : Nat} (hs : w.heap.size = s) (o : Obj) : DtAt ((w.alloc (.cells #[.int .i64 1, .int .i64 1, .string ⟨#[]⟩, .slice none 0 0, .int .i64 1, .int .i64 2, .string ⟨#[]⟩, .slice none 0 0] 48)).alloc o) (fun _ => True) (.agg #[.int .i64 6, .int .i64 0, .string ⟨#[]⟩, .slice (some ⟨s, 0, none⟩) 2 2]) fxD := by
  subst hs
  refine DtAt.bel (w := w.alloc (.cells #[.int .i64 1, .int .i64 1, .string ⟨#[]⟩, .slice none 0 0, .int .i64 1, .int .i64 2, .string ⟨#[]⟩, .slice none 0 0] 48)) ?_ ((Below.refl _ _).alloc (Nat.le_refl _) _) (Nat.le_refl _)
  have hc : ∀ j, (w.alloc (.cells #[.int .i64 1, .int .i64 1, .string ⟨#[]⟩, .slice none 0 0, .int .i64 1, .int .i64 2, .string ⟨#[]⟩, .slice none 0 0] 48)).cell? ⟨w.heap.size, j, none⟩ = #[Value.int .i64 1, .int .i64 1, .string ⟨#[]⟩, .slice none 0 0, .int .i64 1, .int .i64 2, .string ⟨#[]⟩, .slice none 0 0][j]? := fun j => cell_of_row _ _ _ _ _ _ (heap_alloc_new w _)
  refine .row 6 0 ⟨#[]⟩ w.heap.size 0 2 [.mk 1 1 ⟨#[]⟩ [], .mk 1 2 ⟨#[]⟩ []] (fun _ => .slice none 0 0) trivial (by simp) (fun j y hy => ?_) (fun j y hy => ?_)
  · rcases j with _ | _ | j
    · simp at hy
      subst hy
      exact ⟨hc 0, hc 1, hc 2, hc 3⟩
    · simp at hy
      subst hy
      exact ⟨hc 4, hc 5, hc 6, hc 7⟩
    · simp at hy
  · rcases j with _ | _ | j
    · simp at hy
      subst hy
      exact .nil _ _ _
    · simp at hy
      subst hy
      exact .nil _ _ _
    · simp at hy
namespace Dt
mutual
theorem same_refl : ∀ d : Dt, same d d = true
  | mk k i t l => by
    rw [same, sames_refl l]
    simp
theorem sames_refl : ∀ l : List Dt, sames l l = true
  | [] => rfl
  | x :: l => by
    rw [sames, same_refl x, sames_refl l]
    rfl
end
end Dt
set_option maxHeartbeats 4000000 in
set_option maxRecDepth 100000 in
theorem fixed_any (w : World) : Calls Try.prog 10 #[] w fun e w' => e = .returned (.bool true) ∧ Below w.heap.size w w' := by
  go_enter Try.func10, Try.ntmps10
  go_wp2_with fail
  with_reducible refine (new_any _).mono ?_
  rintro e w1 ⟨rfl, rfl⟩
  have H1 := Lib.hid (Lw.init (Below.refl w.heap.size w))
  go_wp2_with fail
  with_reducible refine (num_any 1 _).mono ?_
  rintro e w2 ⟨rfl, hb2⟩
  have H2 := Lib.hid (H1.out.bel hb2)
  clear hb2
  go_wp2_with fail
  with_reducible refine (num_any 2 _).mono ?_
  rintro e w3 ⟨rfl, hb3⟩
  have H3 := Lib.hid (H2.out.bel hb3)
  clear hb3
  go_wp2_with fail
  with_reducible refine (lw_cons (H3.out.new _ rfl) ⟨1, 1, ⟨#[]⟩⟩ ⟨1, 2, ⟨#[]⟩⟩ ⟨8, 0, ⟨#[]⟩⟩ (by decide) (by decide +kernel) (by decide +kernel) rfl (T' := fxT) rfl (s := w3.heap.size) (by simp)).mono ?_
  rintro e w4 ⟨rfl, hL4, hz4⟩
  have H4 := Lib.hid (hL4.tail.new (.cells #[.int .i64 8, .int .i64 0, .string ⟨#[]⟩] 27) rfl)
  clear hL4 hz4
  go_wp2_with fail
  with_reducible refine (lw_car (H4.out.new _ rfl) 0 0 rfl (t := ⟨0, [⟨1, 1, ⟨#[]⟩⟩, ⟨1, 2, ⟨#[]⟩⟩]⟩) rfl rfl (by simp) ⟨1, 1, ⟨#[]⟩⟩ rfl (s := w4.heap.size + 1) (by simp)).mono ?_
  rintro e w5 ⟨rfl, hL5, hz5⟩
  have hz45 : w4.heap.size < w5.heap.size := by simp at hz5; omega
  have H5 := Lib.hid (hL5.tail.new (.cells #[.int .i64 1, .int .i64 1, .string ⟨#[]⟩] 27) rfl)
  clear hL5 hz5
  go_wp2_with fail
  with_reducible refine (num_any 7 _).mono ?_
  rintro e w6 ⟨rfl, hb6⟩
  have H6 := Lib.hid (H5.out.bel hb6)
  have hz56 : w5.heap.size < w6.heap.size := by have := hb6.size; simp at this; omega
  clear hb6
  go_wp2_with fail
  with_reducible refine (num_any 0 _).mono ?_
  rintro e w7 ⟨rfl, hb7⟩
  have H7 := Lib.hid (H6.out.bel hb7)
  have hz67 : w6.heap.size ≤ w7.heap.size := hb7.size
  clear hb7
  go_wp2_with fail
  with_reducible refine (lw_quot (H7.out.new _ rfl) 7 0 (by decide +kernel) (by decide +kernel) Hp.none 82 (by decide +kernel) (s := w7.heap.size) (by simp)).mono ?_
  rintro e w8 ⟨rfl, hL8, hz8⟩
  have hz78 : w7.heap.size < w8.heap.size := by simp at hz8; omega
  have H8 := Lib.hid (hL8.tail.bel ((Below.refl _ _).alloc (Nat.le_refl _) (.cells #[.int .i64 0, .int .i64 0, .string ⟨#[]⟩] 27)))
  clear hL8 hz8
  simp only [Hp.none]
  go_wp2_with fail
  with_reducible refine (lw_bad (H8.out.new _ rfl) ⟨⟨#[99, 97, 114]⟩, [112], ⟨#[112]⟩, -1, 0⟩ (tab_at 19 _ rfl) [⟨8, 9, ⟨#[]⟩⟩] #[.int .i64 8, .int .i64 9, .string ⟨#[]⟩] rfl (by simp) (by intro v hv; simp at hv; subst hv; decide) (by decide +kernel) ⟨#[99, 97, 114]⟩ rfl (s := w8.heap.size + 1) (n := 1) (by simp) rfl).mono ?_
  rintro e w9 ⟨rfl, hL9, hz9⟩
  have hz89 : w8.heap.size + 1 < w9.heap.size := by simp at hz9; omega
  have H9 := Lib.hid (hL9.tail.bel ((Below.refl _ _).alloc (Nat.le_refl _) (.cells #[.int .i64 0, .int .i64 0, .string ⟨#[]⟩] 27)))
  have p0 := hL9.cells (b := w4.heap.size) (cs := #[.int .i64 8, .int .i64 0, .string ⟨#[]⟩]) (t := 27) (by simp) 0
  have p1 := hL9.cells (b := w4.heap.size) (cs := #[.int .i64 8, .int .i64 0, .string ⟨#[]⟩]) (t := 27) (by simp) 1
  have p2 := hL9.cells (b := w4.heap.size) (cs := #[.int .i64 8, .int .i64 0, .string ⟨#[]⟩]) (t := 27) (by simp) 2
  simp only [List.getElem?_toArray, List.getElem?_cons_zero, List.getElem?_cons_succ] at p0 p1 p2
  have hz49 : w4.heap.size < w9.heap.size := by omega
  clear hL9 hz9
  simp only [Hp.none]
  go_wp2_with fail
  with_reducible refine (lw_tell H9.out fx_wf ⟨8, 0, ⟨#[]⟩⟩ (by decide)).mono ?_
  rintro e w10 ⟨d, ad, cd, rfl, hdd, hr, hL10, hz10, _⟩
  rw [fx_told] at hr
  simp only [Option.getD_some] at hr
  subst hr
  rw [fx_told]
  simp only [Dt.kind_mk, Dt.int_mk, Dt.text_mk, Dt.list_mk, Option.isSome_some, List.length_cons, List.length_nil] at hdd ⊢
  have hz910 : w9.heap.size + 1 ≤ w10.heap.size := by simpa using hz10
  have H10 := Lib.hid (((hL10.new (.cells #[.int .i64 6, .int .i64 0, .string ⟨#[]⟩, .slice ad 2 cd] 48) rfl).new (.cells #[.int .i64 1, .int .i64 1, .string ⟨#[]⟩, .slice none 0 0, .int .i64 1, .int .i64 2, .string ⟨#[]⟩, .slice none 0 0] 48) rfl).new (.cells #[.int .i64 6, .int .i64 0, .string ⟨#[]⟩, .slice (some ⟨w10.heap.size + 1, 0, none⟩) 2 2] 48) (s := w10.heap.size + 1 + 1) (by simp))
  have HDD := Lib.hid hdd
  have HWT := Lib.hid (fx_want (w10.alloc (.cells #[.int .i64 6, .int .i64 0, .string ⟨#[]⟩, .slice ad 2 cd] 48)) (s := w10.heap.size + 1) (by simp) (.cells #[.int .i64 6, .int .i64 0, .string ⟨#[]⟩, .slice (some ⟨w10.heap.size + 1, 0, none⟩) 2 2] 48))
  have HBA := Lib.hid (((((Below.refl w10.heap.size w10).alloc (Nat.le_refl _) (.cells #[.int .i64 6, .int .i64 0, .string ⟨#[]⟩, .slice ad 2 cd] 48)).alloc (by simp) (.cells #[.int .i64 1, .int .i64 1, .string ⟨#[]⟩, .slice none 0 0, .int .i64 1, .int .i64 2, .string ⟨#[]⟩, .slice none 0 0] 48)).alloc (by simp; omega) (.cells #[.int .i64 6, .int .i64 0, .string ⟨#[]⟩, .slice (some ⟨w10.heap.size + 1, 0, none⟩) 2 2] 48)))
  clear hdd hL10 hz10
  go_wp2_with fail
  generalize hWX : ((w10.alloc (.cells #[.int .i64 6, .int .i64 0, .string ⟨#[]⟩, .slice ad 2 cd] 48)).alloc (.cells #[.int .i64 1, .int .i64 1, .string ⟨#[]⟩, .slice none 0 0, .int .i64 1, .int .i64 2, .string ⟨#[]⟩, .slice none 0 0] 48)).alloc (.cells #[.int .i64 6, .int .i64 0, .string ⟨#[]⟩, .slice (some ⟨w10.heap.size + 1, 0, none⟩) 2 2] 48) = WX at *
  clear hWX
  have HK : Hid (∀ w', Below WX.heap.size WX w' → w'.cell? ⟨w4.heap.size, 0, none⟩ = some (.int .i64 8) ∧ w'.cell? ⟨w4.heap.size, 1, none⟩ = some (.int .i64 0) ∧ w'.cell? ⟨w4.heap.size, 2, none⟩ = some (.string ⟨#[]⟩) ∧ w'.cell? ⟨w5.heap.size, 0, none⟩ = some (.int .i64 1) ∧ w'.cell? ⟨w5.heap.size, 1, none⟩ = some (.int .i64 1) ∧ w'.cell? ⟨w5.heap.size, 2, none⟩ = some (.string ⟨#[]⟩) ∧
      w'.cell? ⟨w10.heap.size, 0, none⟩ = some (.int .i64 6) ∧ w'.cell? ⟨w10.heap.size, 1, none⟩ = some (.int .i64 0) ∧ w'.cell? ⟨w10.heap.size, 2, none⟩ = some (.string ⟨#[]⟩) ∧ w'.cell? ⟨w10.heap.size, 3, none⟩ = some (.slice ad 2 cd) ∧
      w'.cell? ⟨w10.heap.size + 1 + 1, 0, none⟩ = some (.int .i64 6) ∧ w'.cell? ⟨w10.heap.size + 1 + 1, 1, none⟩ = some (.int .i64 0) ∧ w'.cell? ⟨w10.heap.size + 1 + 1, 2, none⟩ = some (.string ⟨#[]⟩) ∧ w'.cell? ⟨w10.heap.size + 1 + 1, 3, none⟩ = some (.slice (some ⟨w10.heap.size + 1, 0, none⟩) 2 2)) := fun w' hb => by
    have HX := H10.out.bel hb
    have h1 := HX.cells (b := w4.heap.size) (cs := #[.int .i64 8, .int .i64 0, .string ⟨#[]⟩]) (t := 27) (by simp)
    have h2 := HX.cells (b := w5.heap.size) (cs := #[.int .i64 1, .int .i64 1, .string ⟨#[]⟩]) (t := 27) (by simp)
    have h3 := HX.cells (b := w10.heap.size) (cs := #[.int .i64 6, .int .i64 0, .string ⟨#[]⟩, .slice ad 2 cd]) (t := 48) (by simp)
    have h4 := HX.cells (b := w10.heap.size + 1 + 1) (cs := #[.int .i64 6, .int .i64 0, .string ⟨#[]⟩, .slice (some ⟨w10.heap.size + 1, 0, none⟩) 2 2]) (t := 48) (by simp)
    exact ⟨h1 0, h1 1, h1 2, h2 0, h2 1, h2 2, h3 0, h3 1, h3 2, h3 3, h4 0, h4 1, h4 2, h4 3⟩
  have HSM : Hid (∀ w', Below WX.heap.size WX w' → Calls Try.prog 20 #[.agg #[.int .i64 6, .int .i64 0, .string ⟨#[]⟩, .slice ad 2 cd], .agg #[.int .i64 6, .int .i64 0, .string ⟨#[]⟩, .slice (some ⟨w10.heap.size + 1, 0, none⟩) 2 2]] w' fun e w'' => e = .returned (.bool true) ∧ Below w'.heap.size w' w'') := fun w' hb => by
    have := same_any fxD fxD _ _ w' fx_short fx_short (((HDD.out.bel HBA.out (Nat.le_refl _)).mono fun _ _ _ => trivial).bel hb (Nat.le_refl _)) (HWT.out.bel hb (Nat.le_refl _))
    rw [Dt.same_refl] at this
    exact this
  have HCT : Hid (∀ w', Below WX.heap.size WX w' → Calls Try.prog 13 #[.pointer (some ⟨w.heap.size, 0, none⟩)] w' fun e w'' => e = .returned (.int .i64 1) ∧ w' = w'') := fun w' hb => count_any (H10.out.bel hb)
  have HLB := Lib.hid H10.out.below
  have HB0 := Lib.hid (Below.refl WX.heap.size WX).drew
  clear p0 p1 p2
  go_region_held3 (fun w' => w'.cell? ⟨w4.heap.size, 0, none⟩ = some (.int .i64 8) ∧ w'.cell? ⟨w4.heap.size, 1, none⟩ = some (.int .i64 0) ∧ w'.cell? ⟨w4.heap.size, 2, none⟩ = some (.string ⟨#[]⟩) ∧ w'.cell? ⟨w5.heap.size, 0, none⟩ = some (.int .i64 1) ∧ w'.cell? ⟨w5.heap.size, 1, none⟩ = some (.int .i64 1) ∧ w'.cell? ⟨w5.heap.size, 2, none⟩ = some (.string ⟨#[]⟩) ∧
      w'.cell? ⟨w10.heap.size, 0, none⟩ = some (.int .i64 6) ∧ w'.cell? ⟨w10.heap.size, 1, none⟩ = some (.int .i64 0) ∧ w'.cell? ⟨w10.heap.size, 2, none⟩ = some (.string ⟨#[]⟩) ∧ w'.cell? ⟨w10.heap.size, 3, none⟩ = some (.slice ad 2 cd) ∧
      w'.cell? ⟨w10.heap.size + 1 + 1, 0, none⟩ = some (.int .i64 6) ∧ w'.cell? ⟨w10.heap.size + 1 + 1, 1, none⟩ = some (.int .i64 0) ∧ w'.cell? ⟨w10.heap.size + 1 + 1, 2, none⟩ = some (.string ⟨#[]⟩) ∧ w'.cell? ⟨w10.heap.size + 1 + 1, 3, none⟩ = some (.slice (some ⟨w10.heap.size + 1, 0, none⟩) 2 2))
    (first | exact HK.out _ HB0.out | exact HK.out _ HB1.out | exact HK.out _ HB2.out)
    (first
      | (go_at_call 12; (with_reducible refine (num_any 1 _).mono ?_); rintro e x1 ⟨rfl, hb⟩; have HB1 := Lib.hid (HB0.out.trans (hb.mono HB0.out.size)); clear hb)
      | (go_at_call 20; (with_reducible refine (HSM.out _ HB1.out).mono ?_); rintro e x2 ⟨rfl, hb⟩; have HB2 := Lib.hid (HB1.out.trans (hb.mono HB1.out.size)); clear hb)
      | (go_at_call 13; (with_reducible refine (HCT.out _ HB2.out).mono ?_); rintro e x3 ⟨rfl, rfl⟩)
      | fail)
  go_wp2_with fail
  go_ret
  exact ⟨by simp, HLB.out.trans (HB2.out.mono HLB.out.size)⟩
end Go.Proofs.Ythbnhneibpoooaa
/- The heap's calls, for HeapedKeeps; the law's own rows. -/
namespace Go.Proofs.Ythbnhneibpoooaa
open Go.RowKit
set_option linter.unusedVariables false
set_option linter.unusedSimpArgs false
set_option linter.unnecessarySimpa false
section
variable {w0 w : World} {h : Nat} {T : List Hp.Th} {L : List (Nat × Obj)}
theorem lw_makev (H : Lw w0 w h T L) (n : Nat) (y r : Hp.V) (hT : T.length ≤ 1000000) (hn : n ≤ 1000) (hy : Hp.may T.length y = true) (hr : r = ⟨8, T.length, ⟨#[]⟩⟩) {T' : List Hp.Th} (hT' : T ++ [⟨1, List.replicate n y⟩] = T') {s : Nat} (hs : (s, Obj.cells #[.int .i64 1, .int .i64 n, .string ⟨#[]⟩, .int .i64 y.kind, .int .i64 y.int, .string y.text] 27 (0, 0)) ∈ L) :
    Calls Try.prog 11 #[.pointer (some ⟨h, 0, none⟩), .string ⟨#[109, 97, 107, 101, 45, 118, 101, 99, 116, 111, 114]⟩, .slice (some ⟨s, 0, none⟩) 2 2] w (LwPost w0 h T' L r 0 w) := by
  subst hr
  subst hT'
  exact H.call _ _ [⟨1, n, ⟨#[]⟩⟩, y] _ rfl _ _ _ hs rfl fun O h1 h2 h3 => use_makev h1 n y _ h2 h3 hT hn hy (hp_text hy)
theorem lw_ref (H : Lw w0 w h T L) (k : Nat) (kk : Int) (hkk : kk = k) {t : Hp.Th} (hk : T[k]? = some t) (h1 : t.kind = 1) (hl : t.parts.length ≤ 1000000) (j : Nat) (r : Hp.V) (hr : t.parts[j]? = some r) (hj : j ≤ 1000000) {s : Nat} (hs : (s, Obj.cells #[.int .i64 8, .int .i64 kk, .string ⟨#[]⟩, .int .i64 1, .int .i64 j, .string ⟨#[]⟩] 27 (0, 0)) ∈ L) :
    Calls Try.prog 11 #[.pointer (some ⟨h, 0, none⟩), .string ⟨#[118, 101, 99, 116, 111, 114, 45, 114, 101, 102]⟩, .slice (some ⟨s, 0, none⟩) 2 2] w (LwPost w0 h T L r 0 w) := by
  subst hkk
  exact H.call _ _ [⟨8, k, ⟨#[]⟩⟩, ⟨1, j, ⟨#[]⟩⟩] _ rfl _ _ _ hs rfl fun O g1 g2 g3 => use_ref g1 hk h1 hl j r hr hj _ g2 g3
theorem lw_set (H : Lw w0 w h T L) (k : Nat) (kk : Int) (hkk : kk = k) {t : Hp.Th} (hk : T[k]? = some t) (h1 : t.kind = 1) (hl : t.parts.length ≤ 1000000) (j : Nat) (x : Hp.V) (hj : j < t.parts.length) (hx : Hp.may T.length x = true) {T' : List Hp.Th} (hT' : T.set k ⟨1, t.parts.set j x⟩ = T') {s : Nat} (hs : (s, Obj.cells #[.int .i64 8, .int .i64 kk, .string ⟨#[]⟩, .int .i64 1, .int .i64 j, .string ⟨#[]⟩, .int .i64 x.kind, .int .i64 x.int, .string x.text] 27 (0, 0)) ∈ L) :
    Calls Try.prog 11 #[.pointer (some ⟨h, 0, none⟩), .string ⟨#[118, 101, 99, 116, 111, 114, 45, 115, 101, 116, 33]⟩, .slice (some ⟨s, 0, none⟩) 3 3] w (LwPost w0 h T' L Hp.void 0 w) := by
  subst hkk
  subst hT'
  exact H.call _ _ [⟨8, k, ⟨#[]⟩⟩, ⟨1, j, ⟨#[]⟩⟩, x] _ rfl _ _ _ hs rfl fun O g1 g2 g3 => use_set g1 hk h1 hl j x hj _ g2 g3 hx (hp_text hx)
theorem lw_set_out (H : Lw w0 w h T L) (k : Nat) (kk : Int) (hkk : kk = k) {t : Hp.Th} (hk : T[k]? = some t) (h1 : t.kind = 1) (hl : t.parts.length ≤ 1000000) (j : Int) (x : Hp.V) (hj : j < 0 ∨ (t.parts.length : Int) ≤ j) (hN : isN j = true) (hx : Hp.may T.length x = true) {s : Nat} (hs : (s, Obj.cells #[.int .i64 8, .int .i64 kk, .string ⟨#[]⟩, .int .i64 1, .int .i64 j, .string ⟨#[]⟩, .int .i64 x.kind, .int .i64 x.int, .string x.text] 27 (0, 0)) ∈ L) :
    Calls Try.prog 11 #[.pointer (some ⟨h, 0, none⟩), .string ⟨#[118, 101, 99, 116, 111, 114, 45, 115, 101, 116, 33]⟩, .slice (some ⟨s, 0, none⟩) 3 3] w (LwPost w0 h T L Hp.none 83 w) := by
  subst hkk
  exact H.call _ _ [⟨8, k, ⟨#[]⟩⟩, ⟨1, j, ⟨#[]⟩⟩, x] _ rfl _ _ _ hs rfl fun O g1 g2 g3 => use_set_out g1 hk h1 hl j x hj hN _ g2 g3 hx (hp_text hx)
/-- A store into the law's own row. -/
theorem Lw.store {b : Nat} {l : List Hp.V} {t : TypeId} (H : Lw w0 w h T ((b, .cells (Hp.flatV l).toArray t (0, 0)) :: L)) (j : Nat) (v : Hp.V) (hj : j < l.length) :
    Lw w0 (((w.setCell ⟨b, j * 3, none⟩ (.int .i64 v.kind)).setCell ⟨b, j * 3 + 1, none⟩ (.int .i64 v.int)).setCell ⟨b, j * 3 + 2, none⟩ (.string v.text)) h T ((b, .cells (Hp.flatV (l.set j v)).toArray t (0, 0)) :: L) := by
  have h1 := ((H.set (j * 3) (.int .i64 v.kind)).set (j * 3 + 1) (.int .i64 v.int)).set (j * 3 + 2) (.string v.text)
  rw [← Hp.flatV_set l j v hj]
  simpa using h1
/-- The cells of the law's own row. -/
theorem Lw.part {b : Nat} {l : List Hp.V} {t : TypeId} (H : Lw w0 w h T L) (hx : (b, .cells (Hp.flatV l).toArray t (0, 0)) ∈ L) {j : Nat} {v : Hp.V} (hv : l[j]? = some v) :
    w.cell? ⟨b, j * 3, none⟩ = some (.int .i64 v.kind) ∧ w.cell? ⟨b, j * 3 + 1, none⟩ = some (.int .i64 v.int) ∧ w.cell? ⟨b, j * 3 + 2, none⟩ = some (.string v.text) ∧ (∀ i, w.frozen? ⟨b, i, none⟩ = false) ∧ b < w.heap.size := by
  obtain ⟨f0, f1, f2⟩ := Hp.flatV_at l j v hv
  have hb := (H.find hx).1
  refine ⟨?_, ?_, ?_, fun i => frozen_of_row w b i _ _ hb, (H.find hx).2.1⟩
  · rw [cell_of_row w b _ _ _ _ hb]; simpa using f0
  · rw [cell_of_row w b _ _ _ _ hb]; simpa using f1
  · rw [cell_of_row w b _ _ _ _ hb]; simpa using f2
end
end Go.Proofs.Ythbnhneibpoooaa
