/- Two heaps at once: the program's and the reference's; the law's row of what was told, and its own blocks. -/
import Derived.Test.YthbnhneibpoooaaQRH
import Derived.Test.YthbnhneibpoooaaQHpUse3
import Derived.Test.YthbnhneibpoooaaQHpRj
import Derived.Test.YthbnhneibpoooaaQHpRk
import Derived.Test.YthbnhneibpoooaaQRC
import Derived.Test.YthbnhneibpoooaaQMM
set_option linter.unusedVariables false
set_option linter.unusedSimpArgs false
set_option linter.unnecessarySimpa false
namespace Go.Proofs.Ythbnhneibpoooaa
open Go.RowKit
set_option linter.unusedVariables false
set_option linter.unusedSimpArgs false
structure TwO (w0 w : World) (h m : Nat) (O1 O2 : Nat → Prop) (T1 T2 : List Hp.Th) (tv : Value) (told : List Hp.V) (L : List (Nat × Obj)) : Prop where
  s1 : HSt w 65 h O1 T1
  s2 : HSt w 40 m O2 T2
  l1 : ∀ b, O1 b → w0.heap.size ≤ b
  l2 : ∀ b, O2 b → w0.heap.size ≤ b
  ap : ∀ b, O1 b → ¬ O2 b
  row : w.ownsRow w0.heap.size 27 3 tv told.length (Hp.flatV told)
  r1 : ∀ b, tv.ownBlock = some b → ¬ O1 b ∧ ¬ O2 b
  below : Below w0.heap.size w0 w
  loc : ∀ x ∈ L, w.heap[x.1]? = some x.2 ∧ ¬ O1 x.1 ∧ ¬ O2 x.1 ∧ tv.ownBlock ≠ some x.1 ∧ w0.heap.size ≤ x.1
  apart : L.Pairwise fun a b => a.1 ≠ b.1
/-- Behind the world w0 there are two heaps. -/
def Tw (w0 w : World) (h m : Nat) (T1 T2 : List Hp.Th) (tv : Value) (told : List Hp.V) (L : List (Nat × Obj)) : Prop := ∃ O1 O2, TwO w0 w h m O1 O2 T1 T2 tv told L
section
variable {w0 w w' : World} {h m : Nat} {O1 O2 : Nat → Prop} {T1 T2 T : List Hp.Th} {tv : Value} {told : List Hp.V} {L : List (Nat × Obj)}
theorem TwO.bel (H : TwO w0 w h m O1 O2 T1 T2 tv told L) (hb : Below w.heap.size w w') : TwO w0 w' h m O1 O2 T1 T2 tv told L :=
  ⟨H.s1.below hb (Nat.le_refl _), H.s2.below hb (Nat.le_refl _), H.l1, H.l2, H.ap, own_same H.row fun b e => hb.block b (H.row.lt b e).2, H.r1, H.below.trans (hb.mono H.below.size), fun x hx => ⟨(hb.block _ (Array.getElem?_eq_some_iff.1 (H.loc x hx).1).1).trans (H.loc x hx).1, (H.loc x hx).2⟩, H.apart⟩
theorem Tw.bel (H : Tw w0 w h m T1 T2 tv told L) (hb : Below w.heap.size w w') : Tw w0 w' h m T1 T2 tv told L := by
  obtain ⟨O1, O2, H⟩ := H
  exact ⟨O1, O2, H.bel hb⟩
theorem TwO.new (H : TwO w0 w h m O1 O2 T1 T2 tv told L) (o : Obj) : TwO w0 (w.alloc o) h m O1 O2 T1 T2 tv told ((w.heap.size, o) :: L) := by
  have H1 := H.bel ((Below.refl _ _).alloc (Nat.le_refl _) o)
  refine ⟨H1.s1, H1.s2, H1.l1, H1.l2, H1.ap, H1.row, H1.r1, H1.below, fun x hx => ?_, List.pairwise_cons.2 ⟨fun x hx e => ?_, H.apart⟩⟩
  · rcases List.mem_cons.1 hx with rfl | hx
    · exact ⟨heap_alloc_new w o, fun e => by have := H.s1.lt _ e; omega, fun e => by have := H.s2.lt _ e; omega, fun e => by have := (H.row.lt _ e).2; omega, H.below.size⟩
    · exact H1.loc x hx
  · have := (Array.getElem?_eq_some_iff.1 (H.loc x hx).1).1
    dsimp only at e
    omega
theorem Tw.new (H : Tw w0 w h m T1 T2 tv told L) (o : Obj) {s : Nat} (hs : w.heap.size = s) : Tw w0 (w.alloc o) h m T1 T2 tv told ((s, o) :: L) := by
  subst hs
  obtain ⟨O1, O2, H⟩ := H
  exact ⟨O1, O2, H.new o⟩
theorem Tw.tail {x : Nat × Obj} (H : Tw w0 w h m T1 T2 tv told (x :: L)) : Tw w0 w h m T1 T2 tv told L := by
  obtain ⟨O1, O2, H⟩ := H
  exact ⟨O1, O2, H.s1, H.s2, H.l1, H.l2, H.ap, H.row, H.r1, H.below, fun y hy => H.loc y (List.mem_cons_of_mem _ hy), (List.pairwise_cons.1 H.apart).2⟩
theorem Tw.perm {L' : List (Nat × Obj)} (H : Tw w0 w h m T1 T2 tv told L) (hp : L.Perm L') : Tw w0 w h m T1 T2 tv told L' := by
  obtain ⟨O1, O2, H⟩ := H
  exact ⟨O1, O2, H.s1, H.s2, H.l1, H.l2, H.ap, H.row, H.r1, H.below, fun y hy => H.loc y (hp.mem_iff.2 hy), (hp.pairwise_iff (fun e e' => e e'.symm)).1 H.apart⟩
theorem Tw.front2 {x y : Nat × Obj} (H : Tw w0 w h m T1 T2 tv told (x :: y :: L)) : Tw w0 w h m T1 T2 tv told (y :: x :: L) := H.perm (List.Perm.swap ..)
theorem Tw.find (H : Tw w0 w h m T1 T2 tv told L) {b : Nat} {o : Obj} (hx : (b, o) ∈ L) : w.heap[b]? = some o ∧ b < w.heap.size ∧ w0.heap.size ≤ b := by
  obtain ⟨O1, O2, H⟩ := H
  have := H.loc _ hx
  exact ⟨this.1, (Array.getElem?_eq_some_iff.1 this.1).1, this.2.2.2.2⟩
theorem Tw.below (H : Tw w0 w h m T1 T2 tv told L) : Below w0.heap.size w0 w := by
  obtain ⟨O1, O2, H⟩ := H
  exact H.below
theorem Tw.cells (H : Tw w0 w h m T1 T2 tv told L) {b : Nat} {cs : Array Value} {t : TypeId} (hx : (b, Obj.cells cs t (0, 0)) ∈ L) (i : Nat) : w.cell? ⟨b, i, none⟩ = cs[i]? := cell_of_row w b i _ _ _ (H.find hx).1
/-- A store into the first of the law's own blocks. -/
theorem TwO.set {b : Nat} {cs : Array Value} {t : TypeId} (H : TwO w0 w h m O1 O2 T1 T2 tv told ((b, .cells cs t (0, 0)) :: L)) (i : Nat) (v : Value) : TwO w0 (w.setCell ⟨b, i, none⟩ v) h m O1 O2 T1 T2 tv told ((b, .cells (cs.setIfInBounds i v) t (0, 0)) :: L) := by
  obtain ⟨hb, hO1, hO2, htv, hlo⟩ := H.loc (b, .cells cs t (0, 0)) (List.mem_cons_self ..)
  have hap := (List.pairwise_cons.1 H.apart).1
  have hsize : (w.setCell ⟨b, i, none⟩ v).heap.size = w.heap.size := by simp [World.setCell]
  have hoth : ∀ k, k ≠ b → (w.setCell ⟨b, i, none⟩ v).heap[k]? = w.heap[k]? := fun k hk => heap_setCell_other _ _ _ _ hk
  refine ⟨H.s1.keep (by rw [hsize]; exact Nat.le_refl _) fun k hk => hoth k fun e => hO1 (e ▸ hk), H.s2.keep (by rw [hsize]; exact Nat.le_refl _) fun k hk => hoth k fun e => hO2 (e ▸ hk), H.l1, H.l2, H.ap, own_same H.row fun k e => hoth k fun e2 => htv (by rw [e, e2]), H.r1, H.below.setCell (p := ⟨b, i, none⟩) hlo _, fun x hx => ?_, List.pairwise_cons.2 ⟨hap, (List.pairwise_cons.1 H.apart).2⟩⟩
  rcases List.mem_cons.1 hx with rfl | hx
  · exact ⟨heap_setCell_same _ b i _ _ v hb, hO1, hO2, htv, hlo⟩
  · exact ⟨(hoth _ (fun e => hap x hx e.symm)).trans (H.loc x (List.mem_cons_of_mem _ hx)).1, (H.loc x (List.mem_cons_of_mem _ hx)).2⟩
theorem Tw.set {b : Nat} {cs : Array Value} {t : TypeId} (H : Tw w0 w h m T1 T2 tv told ((b, .cells cs t (0, 0)) :: L)) (i : Nat) (v : Value) : Tw w0 (w.setCell ⟨b, i, none⟩ v) h m T1 T2 tv told ((b, .cells (cs.setIfInBounds i v) t (0, 0)) :: L) := by
  obtain ⟨O1, O2, H⟩ := H
  exact ⟨O1, O2, H.set i v⟩
/-- The cells of a value of the law's own. -/
theorem Tw.zer {b : Nat} {p q r : Value} (H : Tw w0 w h m T1 T2 tv told L) (hx : (b, Obj.cells #[p, q, r] 27 (0, 0)) ∈ L) : w.cell? ⟨b, 0, none⟩ = some p ∧ w.cell? ⟨b, 1, none⟩ = some q ∧ w.cell? ⟨b, 2, none⟩ = some r ∧ w.frozen? ⟨b, 0, none⟩ = false ∧ w.frozen? ⟨b, 1, none⟩ = false ∧ w.frozen? ⟨b, 2, none⟩ = false ∧ b < w.heap.size :=
  ⟨H.cells hx 0, H.cells hx 1, H.cells hx 2, frozen_of_row w _ 0 _ _ (H.find hx).1, frozen_of_row w _ 1 _ _ (H.find hx).1, frozen_of_row w _ 2 _ _ (H.find hx).1, (H.find hx).2.1⟩
theorem Tw.set3 {b : Nat} {p q r : Value} {t : TypeId} (H : Tw w0 w h m T1 T2 tv told ((b, .cells #[p, q, r] t (0, 0)) :: L)) (x y z : Value) : Tw w0 (((w.setCell ⟨b, 0, none⟩ x).setCell ⟨b, 1, none⟩ y).setCell ⟨b, 2, none⟩ z) h m T1 T2 tv told ((b, .cells #[x, y, z] t (0, 0)) :: L) := ((H.set 0 x).set 1 y).set 2 z
/-- What a call of the program's heap leaves. -/
theorem TwO.do1 {r : Hp.V} {er : Int} {e : Ending} (H : TwO w0 w h m O1 O2 T1 T2 tv told L) (hp : DoPost 65 h O1 r er T w e w') : ∃ O1', TwO w0 w' h m O1' O2 T T2 tv told L ∧ Grow O1 O1' w w' ∧ e = .returned (.tuple #[.agg #[.int .i64 r.kind, .int .i64 r.int, .string r.text], .int .i64 er]) := by
  obtain ⟨O1', he, h1, h2⟩ := hp
  have hn : ∀ b, b < w.heap.size → ¬ O1 b → ¬ O1' b := fun b hb ho e => by
    rcases h2.own b e with e | e
    · exact ho e
    · omega
  refine ⟨O1', ⟨h1, H.s2.keep h2.size fun b hb => h2.block b (H.s2.lt b hb) fun e => H.ap b e hb, fun b hb => ?_, H.l2, fun b hb e => ?_, own_same H.row fun b e => h2.block b (H.row.lt b e).2 (H.r1 b e).1, fun b e => ⟨hn b (H.row.lt b e).2 (H.r1 b e).1, (H.r1 b e).2⟩, H.below.trans (h2.below H.l1 H.below.size), fun x hx => ?_, H.apart⟩, h2, he⟩
  · rcases h2.own b hb with e | e
    · exact H.l1 b e
    · exact Nat.le_trans H.below.size e
  · exact hn b (H.s2.lt b e) (fun e1 => H.ap b e1 e) hb
  · obtain ⟨g1, g2, g3⟩ := H.loc x hx
    have hlt := (Array.getElem?_eq_some_iff.1 g1).1
    exact ⟨(h2.block _ hlt g2).trans g1, hn _ hlt g2, g3⟩
/-- What a call of the reference's heap leaves. -/
theorem TwO.do2 {r : Hp.V} {er : Int} {e : Ending} (H : TwO w0 w h m O1 O2 T1 T2 tv told L) (hp : DoPost 40 m O2 r er T w e w') : ∃ O2', TwO w0 w' h m O1 O2' T1 T tv told L ∧ Grow O2 O2' w w' ∧ e = .returned (.tuple #[.agg #[.int .i64 r.kind, .int .i64 r.int, .string r.text], .int .i64 er]) := by
  obtain ⟨O2', he, h1, h2⟩ := hp
  have hn : ∀ b, b < w.heap.size → ¬ O2 b → ¬ O2' b := fun b hb ho e => by
    rcases h2.own b e with e | e
    · exact ho e
    · omega
  refine ⟨O2', ⟨H.s1.keep h2.size fun b hb => h2.block b (H.s1.lt b hb) fun e => H.ap b hb e, h1, H.l1, fun b hb => ?_, fun b hb e => ?_, own_same H.row fun b e => h2.block b (H.row.lt b e).2 (H.r1 b e).2, fun b e => ⟨(H.r1 b e).1, hn b (H.row.lt b e).2 (H.r1 b e).2⟩, H.below.trans (h2.below H.l2 H.below.size), fun x hx => ?_, H.apart⟩, h2, he⟩
  · rcases h2.own b hb with e | e
    · exact H.l2 b e
    · exact Nat.le_trans H.below.size e
  · exact hn b (H.s1.lt b hb) (fun e1 => H.ap b hb e1) e
  · obtain ⟨g1, g2, g3, g4⟩ := H.loc x hx
    have hlt := (Array.getElem?_eq_some_iff.1 g1).1
    exact ⟨(h2.block _ hlt g3).trans g1, g2, hn _ hlt g3, g4⟩
end
theorem VSl.grow {w w' : World} {O O' : Nat → Prop} {v : Value} {l : List Hp.V} (H : VSl w v l) (hf : Hp.free O v) (hg : Grow O O' w w') : VSl w' v l := by
  obtain ⟨a, cap, rfl, h | ⟨ad, rfl, h⟩⟩ := H
  · exact ⟨a, cap, rfl, .inl h⟩
  · refine ⟨_, cap, rfl, .inr ⟨ad, rfl, fun j u hu => ?_⟩⟩
    have hc := h j u hu
    have hlt := World.block_lt_of_cell? w _ hc
    have hb : (ad.add j).block = ad.block := by
      unfold Addr.add
      split <;> rfl
    rw [hb] at hlt
    have he := hg.block ad.block hlt (hf ad.block rfl)
    rw [← hc]
    exact World.cell?_of_block (a := ad.add j) (by rw [hb]; exact he)
/-- The arguments of a call, with the two heaps. -/
def TwA (w0 w : World) (h m : Nat) (T1 T2 : List Hp.Th) (tv : Value) (told : List Hp.V) (L : List (Nat × Obj)) (av : Value) (l : List Hp.V) : Prop :=
  ∃ O1 O2, TwO w0 w h m O1 O2 T1 T2 tv told L ∧ VSl w av l ∧ Hp.free O1 av ∧ Hp.free O2 av ∧ (∀ b, av.ownBlock = some b → b < w.heap.size) ∧ ∀ x ∈ L, av.ownBlock ≠ some x.1
section
variable {w0 w w' : World} {h m : Nat} {T1 T2 T : List Hp.Th} {tv av : Value} {told l : List Hp.V} {L : List (Nat × Obj)}
theorem TwA.tw (H : TwA w0 w h m T1 T2 tv told L av l) : Tw w0 w h m T1 T2 tv told L := by
  obtain ⟨O1, O2, H, _⟩ := H
  exact ⟨O1, O2, H⟩
theorem TwA.bel (H : TwA w0 w h m T1 T2 tv told L av l) (hb : Below w.heap.size w w') : TwA w0 w' h m T1 T2 tv told L av l := by
  obtain ⟨O1, O2, H, h1, h2, h3, h4, h5⟩ := H
  exact ⟨O1, O2, H.bel hb, h1.below hb (Nat.le_refl _), h2, h3, fun b e => Nat.lt_of_lt_of_le (h4 b e) hb.size, h5⟩
theorem TwA.new (H : TwA w0 w h m T1 T2 tv told L av l) (o : Obj) {s : Nat} (hs : w.heap.size = s) : TwA w0 (w.alloc o) h m T1 T2 tv told ((s, o) :: L) av l := by
  subst hs
  obtain ⟨O1, O2, H, h1, h2, h3, h4, h5⟩ := H
  have hb : Below w.heap.size w (w.alloc o) := (Below.refl _ _).alloc (Nat.le_refl _) o
  refine ⟨O1, O2, H.new o, h1.below hb (Nat.le_refl _), h2, h3, fun b e => Nat.lt_of_lt_of_le (h4 b e) hb.size, fun x hx => ?_⟩
  rcases List.mem_cons.1 hx with rfl | hx
  · exact fun e => by have := h4 _ e; omega
  · exact h5 x hx
theorem TwA.front2 {x y : Nat × Obj} (H : TwA w0 w h m T1 T2 tv told (x :: y :: L) av l) : TwA w0 w h m T1 T2 tv told (y :: x :: L) av l := by
  obtain ⟨O1, O2, H, h1, h2, h3, h4, h5⟩ := H
  have hp : (x :: y :: L).Perm (y :: x :: L) := List.Perm.swap ..
  exact ⟨O1, O2, ⟨H.s1, H.s2, H.l1, H.l2, H.ap, H.row, H.r1, H.below, fun z hz => H.loc z (hp.mem_iff.2 hz), (hp.pairwise_iff (fun e e' => e e'.symm)).1 H.apart⟩, h1, h2, h3, h4, fun z hz => h5 z (hp.mem_iff.2 hz)⟩
theorem TwA.set {b : Nat} {cs : Array Value} {t : TypeId} (H : TwA w0 w h m T1 T2 tv told ((b, .cells cs t (0, 0)) :: L) av l) (i : Nat) (v : Value) : TwA w0 (w.setCell ⟨b, i, none⟩ v) h m T1 T2 tv told ((b, .cells (cs.setIfInBounds i v) t (0, 0)) :: L) av l := by
  obtain ⟨O1, O2, H, h1, h2, h3, h4, h5⟩ := H
  have hne := h5 (b, .cells cs t (0, 0)) (List.mem_cons_self ..)
  have hs : (w.setCell ⟨b, i, none⟩ v).heap.size = w.heap.size := by simp [World.setCell]
  refine ⟨O1, O2, H.set i v, ?_, h2, h3, fun k e => by rw [hs]; exact h4 k e, fun x hx => ?_⟩
  · obtain ⟨a, cap, rfl, h | ⟨ad, rfl, h⟩⟩ := h1
    · exact ⟨a, cap, rfl, .inl h⟩
    · refine ⟨_, cap, rfl, .inr ⟨ad, rfl, fun j u hu => ?_⟩⟩
      have hb : (ad.add j).block = ad.block := by
        unfold Addr.add
        split <;> rfl
      rw [← h j u hu]
      exact World.cell?_of_block (a := ad.add j) (by rw [hb]; exact heap_setCell_other _ _ _ _ (fun e => hne (congrArg some e)))
  · rcases List.mem_cons.1 hx with rfl | hx
    · exact hne
    · exact h5 x (List.mem_cons_of_mem _ hx)
theorem TwA.set3 {b : Nat} {p q r : Value} {t : TypeId} (H : TwA w0 w h m T1 T2 tv told ((b, .cells #[p, q, r] t (0, 0)) :: L) av l) (x y z : Value) : TwA w0 (((w.setCell ⟨b, 0, none⟩ x).setCell ⟨b, 1, none⟩ y).setCell ⟨b, 2, none⟩ z) h m T1 T2 tv told ((b, .cells #[x, y, z] t (0, 0)) :: L) av l := ((H.set 0 x).set 1 y).set 2 z
/-- A call of the program's heap. -/
theorem TwA.call1 (H : TwA w0 w h m T1 T2 tv told L av l) (f : Nat) (args : Array Value) (r : Hp.V) (er : Int) (hU : ∀ O, HSt w 65 h O T1 → VSl w av l → Hp.free O av → Calls Try.prog f args w (DoPost 65 h O r er T w)) :
    Calls Try.prog f args w fun e w' => e = .returned (.tuple #[.agg #[.int .i64 r.kind, .int .i64 r.int, .string r.text], .int .i64 er]) ∧ TwA w0 w' h m T T2 tv told L av l ∧ w.heap.size ≤ w'.heap.size := by
  obtain ⟨O1, O2, H, h1, h2, h3, h4, h5⟩ := H
  refine (hU O1 H.s1 h1 h2).mono fun e w' hp => ?_
  obtain ⟨O1', K, hg, he⟩ := H.do1 hp
  refine ⟨he, ⟨O1', O2, K, h1.grow h2 hg, fun b e ho => ?_, h3, fun b e => Nat.lt_of_lt_of_le (h4 b e) hg.size, h5⟩, hg.size⟩
  rcases hg.own b ho with e1 | e1
  · exact h2 b e e1
  · have := h4 b e; omega
/-- A call of the reference's heap. -/
theorem TwA.call2 (H : TwA w0 w h m T1 T2 tv told L av l) (f : Nat) (args : Array Value) (r : Hp.V) (er : Int) (hU : ∀ O, HSt w 40 m O T2 → VSl w av l → Calls Try.prog f args w (DoPost 40 m O r er T w)) :
    Calls Try.prog f args w fun e w' => e = .returned (.tuple #[.agg #[.int .i64 r.kind, .int .i64 r.int, .string r.text], .int .i64 er]) ∧ TwA w0 w' h m T1 T tv told L av l ∧ w.heap.size ≤ w'.heap.size := by
  obtain ⟨O1, O2, H, h1, h2, h3, h4, h5⟩ := H
  refine (hU O2 H.s2 h1).mono fun e w' hp => ?_
  obtain ⟨O2', K, hg, he⟩ := H.do2 hp
  refine ⟨he, ⟨O1, O2', K, h1.grow h3 hg, h2, fun b e ho => ?_, fun b e => Nat.lt_of_lt_of_le (h4 b e) hg.size, h5⟩, hg.size⟩
  rcases hg.own b ho with e1 | e1
  · exact h3 b e e1
  · have := h4 b e; omega
/-- What was told, and one more. -/
theorem Tw.push {o : Obj} {v : Hp.V} {tv' : Value} {w1 : World} (H : Tw w0 w h m T1 T2 tv told L) (hown : w1.ownsRow w0.heap.size 27 3 tv' (told.length + 1) (Hp.flatV told ++ [.int .i64 v.kind, .int .i64 v.int, .string v.text])) (hg : (w.alloc o).grownBy w1 tv.ownBlock) (hl : tv'.ownBlock = tv.ownBlock ∨ tv'.ownBlock = some (w.alloc o).heap.size) :
    Tw w0 w1 h m T1 T2 tv' (told ++ [v]) [] := by
  obtain ⟨O1, O2, H⟩ := H
  have H1 := H.bel ((Below.refl w.heap.size w).alloc (Nat.le_refl _) o)
  have hO1 : ∀ b, O1 b → w1.heap[b]? = (w.alloc o).heap[b]? := fun b hb => hg.block b (H1.s1.lt b hb) fun e => (H.r1 b e.symm).1 hb
  have hO2 : ∀ b, O2 b → w1.heap[b]? = (w.alloc o).heap[b]? := fun b hb => hg.block b (H1.s2.lt b hb) fun e => (H.r1 b e.symm).2 hb
  refine ⟨O1, O2, H1.s1.keep hg.size hO1, H1.s2.keep hg.size hO2, H.l1, H.l2, H.ap, ?_, fun b e => ?_, ?_, fun x hx => by simp at hx, List.Pairwise.nil⟩
  · rw [List.length_append, Hp.flatV_append]
    exact hown
  · rcases hl with e1 | e1
    · exact H.r1 b (e1 ▸ e)
    · rw [e] at e1
      cases e1
      exact ⟨fun e2 => by have := H1.s1.lt _ e2; omega, fun e2 => by have := H1.s2.lt _ e2; omega⟩
  · have hb := H1.below
    refine ⟨hg.os.trans hb.os, hg.tape.trans hb.tape, hg.output.trans hb.output, Nat.le_trans hb.size hg.size, fun b hlt => ?_⟩
    refine (hg.block b (Nat.lt_of_lt_of_le hlt hb.size) fun e => ?_).trans (hb.block b hlt)
    have := (H.row.lt b e.symm).1
    omega
end
theorem count_st {w : World} {h : Nat} {O : Nat → Prop} {T : List Hp.Th} (H : HSt w 65 h O T) : Calls Try.prog 13 #[.pointer (some ⟨h, 0, none⟩)] w fun e w' => e = .returned (.int .i64 T.length) ∧ w = w' := by
  obtain ⟨vt, M, HA, rfl⟩ := H
  have hc := HA.c0
  obtain ⟨a, c, rfl⟩ := HA.shape
  rw [List.length_map]
  clear HA
  go_enter Try.func13, Try.ntmps13
  go_wp2_with fail
  go_ret
  exact ⟨rfl, rfl⟩
end Go.Proofs.Ythbnhneibpoooaa
/- What calls of the heap leave, plainly: few things, few parts, short texts. -/
namespace Go.Proofs.Ythbnhneibpoooaa
open Go.RowKit
set_option linter.unusedVariables false
set_option linter.unusedSimpArgs false
namespace Hp
structure Good (n : Nat) (T : List Th) : Prop where
  len : T.length ≤ n
  few : ∀ t ∈ T, t.parts.length ≤ 1000
  text : ∀ t ∈ T, ∀ p ∈ t.parts, p.text.size ≤ maxLen
theorem Good.mono {n k : Nat} {T : List Th} (h : Good n T) (hn : n ≤ k) : Good k T := ⟨Nat.le_trans h.len hn, h.few, h.text⟩
/-- A result that is good. -/
def GoodR (n : Nat) (r : V × Int × List Th) : Prop := Good n r.2.2 ∧ r.1.text.size ≤ maxLen
theorem zero_le_max : (⟨#[]⟩ : ByteArray).size ≤ maxLen := Nat.zero_le _
theorem good_no {n : Nat} {T : List Th} (h : Good n T) (e : Int) : GoodR (n + 1) (none, e, T) := ⟨h.mono (Nat.le_succ _), zero_le_max⟩
theorem good_say {n : Nat} {T : List Th} (h : Good n T) (v : V) (hv : v.text.size ≤ maxLen) : GoodR (n + 1) (sayF T v) := ⟨h.mono (Nat.le_succ _), hv⟩
theorem partsOf_text {n : Nat} {T : List Th} (h : Good n T) (a : V) : ∀ p ∈ partsOf T a, p.text.size ≤ maxLen := by
  unfold partsOf
  split
  · rename_i t ht
    exact h.text t (List.mem_of_getElem? ht)
  · simp
theorem partsOf_few {n : Nat} {T : List Th} (h : Good n T) (a : V) : (partsOf T a).length ≤ 1000 := by
  unfold partsOf
  split
  · rename_i t ht
    exact h.few t (List.mem_of_getElem? ht)
  · simp
theorem good_get {n : Nat} {T : List Th} (h : Good n T) (a : V) (i : Int) : GoodR (n + 1) (getF T a i) := by
  unfold getF
  split
  · rename_i hi
    refine ⟨h.mono (Nat.le_succ _), ?_⟩
    refine partsOf_text h a _ ?_
    rw [List.getD_eq_getElem?_getD, List.getElem?_eq_getElem (by omega)]
    exact List.getElem_mem _
  · exact good_no h 83
theorem good_add {n : Nat} {T : List Th} (h : Good n T) (t : Th) (ht : t.parts.length ≤ 1000) (hx : ∀ p ∈ t.parts, p.text.size ≤ maxLen) : GoodR (n + 1) (addF T t) := by
  refine ⟨⟨by rw [show (addF T t).2.2 = T ++ [t] from rfl, List.length_append]; exact Nat.succ_le_succ h.len, fun u hu => ?_, fun u hu => ?_⟩, zero_le_max⟩
  · rcases List.mem_append.1 (show u ∈ T ++ [t] from hu) with hu | hu
    · exact h.few u hu
    · rw [List.mem_singleton.1 hu]; exact ht
  · rcases List.mem_append.1 (show u ∈ T ++ [t] from hu) with hu | hu
    · exact h.text u hu
    · rw [List.mem_singleton.1 hu]; exact hx
theorem good_put {n : Nat} {T : List Th} (h : Good n T) (a : V) (i : Int) (x : V) (hx : x.text.size ≤ maxLen) : GoodR (n + 1) (putF T a i x) := by
  unfold putF
  split
  · refine ⟨⟨by rw [List.length_set]; exact Nat.le_trans h.len (Nat.le_succ _), fun u hu => ?_, fun u hu => ?_⟩, zero_le_max⟩
    · rcases List.mem_or_eq_of_mem_set hu with hu | rfl
      · exact h.few u hu
      · rw [List.length_set]; exact partsOf_few h a
    · rcases List.mem_or_eq_of_mem_set hu with hu | rfl
      · exact h.text u hu
      · intro p hp
        rcases List.mem_or_eq_of_mem_set hp with hp | rfl
        · exact partsOf_text h a p hp
        · exact hx
  · exact good_no h 83
theorem good_fill {n : Nat} {T : List Th} (h : Good n T) (kind k : Int) (v : V) (hv : v.text.size ≤ maxLen) : GoodR (n + 1) (fillF T kind k v) := by
  unfold fillF
  split
  · exact good_no h 83
  · exact good_add h _ (by rw [List.length_replicate]; omega) fun p hp => by rw [List.eq_of_mem_replicate hp]; exact hv
theorem good_reck {n : Nat} {T : List Th} (h : Good n T) (op x y : Int) : GoodR (n + 1) ((reckF op x y).1, (reckF op x y).2, T) := by
  refine ⟨h.mono (Nat.le_succ _), ?_⟩
  unfold reckF
  split
  · exact zero_le_max
  split
  · exact zero_le_max
  · exact zero_le_max
theorem getD_text {l : List V} (hl : ∀ v ∈ l, v.text.size ≤ maxLen) (k : Nat) : (l.getD k none).text.size ≤ maxLen := by
  rw [List.getD_eq_getElem?_getD]
  cases h : l[k]? with
  | none => exact zero_le_max
  | some v => exact hl v (List.mem_of_getElem? h)
theorem good_act {n : Nat} {T : List Th} (h : Good n T) (i : Nat) (a b c : V) (l : List V) (hb : b.text.size ≤ maxLen) (hc : c.text.size ≤ maxLen) (hl : ∀ v ∈ l, v.text.size ≤ maxLen) (hl2 : l.length ≤ 1000) : GoodR (n + 1) (actF T i a b c l) := by
  unfold actF
  split
  all_goals first
    | exact good_reck h _ _ _
    | exact good_get h _ _
    | exact good_put h _ _ _ hb
    | exact good_put h _ _ _ hc
    | exact good_fill h _ _ _ hb
    | exact good_add h _ hl2 hl
    | exact good_say h _ zero_le_max
    | (split
       · exact good_no h _
       · exact good_say h _ zero_le_max)
theorem good_do {n : Nat} {T : List Th} (h : Good n T) (p : ByteArray) (l : List V) (hl : ∀ v ∈ l, v.text.size ≤ maxLen) (hl2 : l.length ≤ 1000) : GoodR (n + 1) (doF T p l) := by
  unfold doF
  split
  · split
    · exact good_no h _
    split
    · exact good_no h _
    split
    · exact good_no h _
    · exact good_act h _ _ _ _ _ (getD_text hl 1) (getD_text hl 2) hl hl2
  · exact good_no h _
theorem good_make {n : Nat} {T : List Th} (h : Good n T) (kind : Int) (l : List V) (hl : ∀ v ∈ l, v.text.size ≤ maxLen) (hl2 : l.length ≤ 1000) : GoodR (n + 1) (makeF T kind l) := by
  unfold makeF
  split
  · exact good_add h ⟨kind, l⟩ hl2 hl
  · exact good_no h _
end Hp
end Go.Proofs.Ythbnhneibpoooaa
