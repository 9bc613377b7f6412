/- What a value shows, plainly; the teller in memory. -/
import Derived.Laws.BytesArg
import Derived.Test.YtalfnaielhbocaaKJav
import Derived.Test.YtalfnaielhbocaaKJaw
set_option linter.unusedVariables false
set_option linter.unusedSimpArgs false
set_option linter.unnecessarySimpa false
namespace Go.Proofs.Ytalfnaielhbocaa
open Go.RowKit
set_option maxRecDepth 100000
set_option linter.unusedVariables false
set_option linter.unusedSimpArgs false
namespace Dt
mutual
def nodes : Dt → Nat
  | mk _ _ _ l => nodess l + 1
def nodess : List Dt → Nat
  | [] => 0
  | x :: l => nodes x + nodess l
end
theorem nodes_pos (d : Dt) : 0 < d.nodes := by cases d; rw [nodes]; omega
theorem nodes_list (d : Dt) : d.nodes = nodess d.list + 1 := by cases d; rw [nodes]; rfl
theorem nodess_app : ∀ (l m : List Dt), nodess (l ++ m) = nodess l + nodess m
  | [], m => by simp [nodess]
  | x :: l, m => by
    rw [List.cons_append, nodess, nodess, nodess_app l m]
    omega
theorem nodess_len : ∀ l : List Dt, l.length ≤ nodess l
  | [] => Nat.le_refl _
  | x :: l => by
    have := nodess_len l
    have := nodes_pos x
    rw [nodess, List.length_cons]
    omega
theorem nodess_mem : ∀ (l : List Dt) (x : Dt), x ∈ l → x.nodes ≤ nodess l
  | [], x, h => by simp at h
  | y :: l, x, h => by
    rw [nodess]
    rcases List.mem_cons.1 h with rfl | h
    · omega
    · have := nodess_mem l x h
      omega
theorem short_n : ∀ (n : Nat) (d : Dt), d.nodes ≤ n → n ≤ 1000000 → Dt.Short d
  | 0, d, h, _ => by have := nodes_pos d; omega
  | n + 1, d, h, hn => by
    have e := nodes_list d
    obtain ⟨k, i, t, l⟩ := d
    simp only [Dt.list_mk] at e
    refine .mk k i t l (by have := nodess_len l; omega) fun j x hx => ?_
    have := nodess_mem l x (List.mem_of_getElem? hx)
    exact short_n n x (by omega) (by omega)
theorem short_of {d : Dt} (h : d.nodes ≤ 1000000) : Dt.Short d := short_n _ d (Nat.le_refl _) h
theorem short_list {l : List Dt} (h : nodess l ≤ 100000) (k i : Int) (t : ByteArray) : Dt.Short (.mk k i t l) := short_of (by rw [nodes]; omega)
end Dt
theorem mkD_nodes (x b : Dt) : (mkD [x] b).nodes ≤ x.nodes + b.nodes + 1 := by
  have e := Dt.nodes_list b
  unfold mkD
  split
  · rw [Dt.nodes, Dt.nodess_app, Dt.nodess, Dt.nodess]
    omega
  · rw [Dt.nodes, Dt.nodess_app, Dt.nodess, Dt.nodess, Dt.nodess, Dt.nodess]
    omega
namespace Hp
def sym (t : ByteArray) : Dt := .mk 4 0 t []
def leafD (v : V) : Dt :=
  if v.kind = 1 then .mk 1 v.int ⟨#[]⟩ [] else if v.kind = 2 then .mk 2 v.int ⟨#[]⟩ [] else if v.kind = 3 then sym v.text else if v.kind = 4 then .mk 5 0 ⟨#[]⟩ []
  else if v.kind = 5 then sym ⟨#[118, 111, 105, 100]⟩ else if v.kind = 6 then sym ⟨#[101, 111, 102]⟩ else if v.kind = 7 then sym ⟨#[117, 110, 115, 101, 116]⟩ else .mk 0 v.int ⟨#[]⟩ []
def textOf (l : List V) : ByteArray := strOfNums (l.map fun v => v.int % 256)
def listF (f : V → Nat → Nat → Option (Dt × Nat)) (deep : Nat) : List V → Nat → Option (List Dt × Nat)
  | [], left => some ([], left)
  | v :: l, left => (f v deep left).bind fun x => (listF f deep l x.2).map fun m => (x.1 :: m.1, m.2)
def thingF (f : V → Nat → Nat → Option (Dt × Nat)) (t : Th) (deep left : Nat) : Option (Dt × Nat) :=
  if t.kind = 3 then some (sym ⟨#[98, 111, 120]⟩, left) else if t.kind = 4 then some (sym ⟨#[112, 114, 111, 99, 101, 100, 117, 114, 101]⟩, left) else if t.kind = 2 then some (.mk 3 0 (textOf t.parts) [], left)
  else if t.kind = 0 then
    match t.parts with
    | a :: b :: _ => (f a (deep + 1) left).bind fun x => (f b deep x.2).map fun y => (mkD [x.1] y.1, y.2)
    | _ => Option.none
  else (listF f (deep + 1) t.parts left).map fun m => (.mk 7 0 ⟨#[]⟩ m.1, m.2)
def tellF (T : List Th) : Nat → V → Nat → Nat → Option (Dt × Nat)
  | 0, _, _, _ => Option.none
  | n + 1, v, deep, left =>
    if left = 0 ∨ 32 < deep then Option.none
    else if v.kind = 8 then (T[v.int.toNat]?).bind fun t => thingF (tellF T n) t deep (left - 1)
    else some (leafD v, left - 1)
theorem listF_app (f : V → Nat → Nat → Option (Dt × Nat)) (deep : Nat) : ∀ (l r : List V) (left : Nat), listF f deep (l ++ r) left = (listF f deep l left).bind fun m => (listF f deep r m.2).map fun k => (m.1 ++ k.1, k.2)
  | [], r, left => by simp [listF]
  | v :: l, r, left => by
    rw [List.cons_append, listF, listF]
    cases f v deep left with
    | none => rfl
    | some x =>
      simp only [Option.bind_some]
      rw [listF_app f deep l r x.2]
      cases listF f deep l x.2 with
      | none => rfl
      | some m =>
        simp only [Option.bind_some, Option.map_some]
        cases listF f deep r m.2 with
        | none => rfl
        | some k => rfl
theorem listF_len (f : V → Nat → Nat → Option (Dt × Nat)) (deep : Nat) : ∀ (l : List V) (left : Nat) (m : List Dt × Nat), listF f deep l left = some m → m.1.length = l.length
  | [], left, m, h => by simp [listF] at h; subst h; rfl
  | v :: l, left, m, h => by
    rw [listF] at h
    cases hx : f v deep left with
    | none => rw [hx] at h; simp at h
    | some x =>
      rw [hx] at h
      simp only [Option.bind_some, Option.map_eq_some_iff] at h
      obtain ⟨k, hk, rfl⟩ := h
      simp [listF_len f deep l x.2 k hk]
def Fits (f : V → Nat → Nat → Option (Dt × Nat)) : Prop := ∀ v deep left x, f v deep left = some x → x.1.nodes + x.2 ≤ left
theorem listF_fits {f : V → Nat → Nat → Option (Dt × Nat)} (hf : Fits f) (deep : Nat) : ∀ (l : List V) (left : Nat) (m : List Dt × Nat), listF f deep l left = some m → Dt.nodess m.1 + m.2 ≤ left
  | [], left, m, h => by simp [listF] at h; subst h; simp [Dt.nodess]
  | v :: l, left, m, h => by
    rw [listF] at h
    cases hx : f v deep left with
    | none => rw [hx] at h; simp at h
    | some x =>
      rw [hx] at h
      simp only [Option.bind_some, Option.map_eq_some_iff] at h
      obtain ⟨k, hk, rfl⟩ := h
      have h1 := hf v deep left x hx
      have h2 := listF_fits hf deep l x.2 k hk
      rw [Dt.nodess]
      omega
theorem thingF_fits {f : V → Nat → Nat → Option (Dt × Nat)} (hf : Fits f) (t : Th) (deep left : Nat) (x : Dt × Nat) (h : thingF f t deep left = some x) : x.1.nodes + x.2 ≤ left + 1 := by
  unfold thingF at h
  split at h
  · cases h; simp [sym, Dt.nodes, Dt.nodess]; omega
  split at h
  · cases h; simp [sym, Dt.nodes, Dt.nodess]; omega
  split at h
  · cases h; simp [Dt.nodes, Dt.nodess]; omega
  split at h
  · split at h
    · rename_i a b _ _
      cases hx : f a (deep + 1) left with
      | none => rw [hx] at h; simp at h
      | some y =>
        rw [hx] at h
        simp only [Option.bind_some, Option.map_eq_some_iff] at h
        obtain ⟨z, hz, rfl⟩ := h
        have h1 := hf _ _ _ _ hx
        have h2 := hf _ _ _ _ hz
        have := mkD_nodes y.1 z.1
        show (mkD [y.1] z.1).nodes + z.2 ≤ left + 1
        omega
    · cases h
  · simp only [Option.map_eq_some_iff] at h
    obtain ⟨m, hm, rfl⟩ := h
    have := listF_fits hf _ _ _ _ hm
    show (Dt.mk 7 0 ⟨#[]⟩ m.1).nodes + m.2 ≤ left + 1
    rw [Dt.nodes]
    omega
theorem tellF_fits (T : List Th) : ∀ n, Fits (tellF T n)
  | 0 => fun v deep left x h => by simp [tellF] at h
  | n + 1 => fun v deep left x h => by
    rw [tellF] at h
    split at h
    · cases h
    · rename_i hn
      split at h
      · simp only [Option.bind_eq_some_iff] at h
        obtain ⟨t, _, h⟩ := h
        have := thingF_fits (tellF_fits T n) t deep (left - 1) x h
        omega
      · cases h
        have : (leafD v).nodes = 1 := by
          unfold leafD sym
          (repeat' split) <;> rfl
        show (leafD v).nodes + (left - 1) ≤ left
        omega
end Hp
def TlAt (w : World) (tb h : Nat) (left : Nat) : Prop := w.heap[tb]? = some (.cells #[.pointer (some ⟨h, 0, none⟩), .int .i64 left] 95 (0, 0))
structure Save (tb : Nat) (w w' : World) : Prop where
  os : w'.os = w.os
  tape : w'.tape = w.tape
  output : w'.output = w.output
  size : w.heap.size ≤ w'.heap.size
  block : ∀ b, b < w.heap.size → b ≠ tb → w'.heap[b]? = w.heap[b]?
theorem Save.of {tb : Nat} {w w' : World} (h : Below w.heap.size w w') : Save tb w w' := ⟨h.os, h.tape, h.output, h.size, fun b hb _ => h.block b hb⟩
theorem Save.trans {tb : Nat} {a b c : World} (h : Save tb a b) (k : Save tb b c) : Save tb a c :=
  ⟨k.os.trans h.os, k.tape.trans h.tape, k.output.trans h.output, Nat.le_trans h.size k.size, fun i hi ho => (k.block i (Nat.lt_of_lt_of_le hi h.size) ho).trans (h.block i hi ho)⟩
theorem Save.below {tb N : Nat} {w w' : World} (h : Save tb w w') (hN : N ≤ tb) (hw : N ≤ w.heap.size) : Below N w w' := ⟨h.os, h.tape, h.output, h.size, fun b hb => h.block b (by omega) (by omega)⟩
theorem Save.set {tb i : Nat} {w w' : World} (h : Save tb w w') (v : Value) : Save tb w (w'.setCell ⟨tb, i, none⟩ v) :=
  ⟨h.os, h.tape, h.output, by simpa [World.setCell] using h.size, fun b hb ho => (heap_setCell_other _ _ _ _ ho).trans (h.block b hb ho)⟩
theorem Save.cell {tb : Nat} {w w' : World} (h : Save tb w w') {b o : Nat} (hb : b < w.heap.size) (ho : b ≠ tb) : w'.cell? ⟨b, o, none⟩ = w.cell? ⟨b, o, none⟩ := World.cell?_of_block (a := ⟨b, o, none⟩) (h.block b hb ho)
theorem Save.frozen {tb : Nat} {w w' : World} (h : Save tb w w') {b o : Nat} (hb : b < w.heap.size) (ho : b ≠ tb) : w'.frozen? ⟨b, o, none⟩ = w.frozen? ⟨b, o, none⟩ := World.frozen?_of_block (a := ⟨b, o, none⟩) (h.block b hb ho)
theorem TlAt.cells {w : World} {tb h left : Nat} (H : TlAt w tb h left) : w.cell? ⟨tb, 0, none⟩ = some (.pointer (some ⟨h, 0, none⟩)) ∧ w.cell? ⟨tb, 1, none⟩ = some (.int .i64 left) ∧ w.frozen? ⟨tb, 0, none⟩ = false ∧ w.frozen? ⟨tb, 1, none⟩ = false ∧ tb < w.heap.size :=
  ⟨cell_of_row w tb 0 _ _ _ H, cell_of_row w tb 1 _ _ _ H, frozen_of_row w _ 0 _ _ H, frozen_of_row w _ 1 _ _ H, (Array.getElem?_eq_some_iff.1 H).1⟩
theorem TlAt.bel {w w' : World} {tb h left N : Nat} (H : TlAt w tb h left) (hb : Below N w w') (hN : w.heap.size ≤ N) : TlAt w' tb h left := (hb.block tb (by have := H.cells.2.2.2.2; omega)).trans H
theorem TlAt.set {w : World} {tb h left left' : Nat} (H : TlAt w tb h left) : TlAt (w.setCell ⟨tb, 1, none⟩ (.int .i64 left')) tb h left' := heap_setCell_same _ tb 1 _ _ _ H
theorem HSt.save {w w' : World} {ty h tb : Nat} {O : Nat → Prop} {T : List Hp.Th} (H : HSt w ty h O T) (hs : Save tb w w') (hO : ¬ O tb) : HSt w' ty h O T := H.keep hs.size fun b hb => hs.block b (H.lt b hb) fun e => hO (e ▸ hb)
theorem DtAt.save {w w' : World} {S : Nat → Prop} {v : Value} {d : Dt} {tb : Nat} (H : DtAt w S v d) (hs : Save tb w w') (hS : ¬ S tb) : DtAt w' S v d := H.same (fun _ h _ => h) hs.size fun b hb hlt => hs.block b hlt fun e => hS (e ▸ hb)
def TOut (r : Option (Dt × Nat)) (tb h : Nat) (w : World) (e : Ending) (w' : World) : Prop :=
  ∃ (d : Dt) (a : Option Addr) (c : Nat) (ok : Bool) (left : Nat), e = .returned (.tuple #[.agg #[.int .i64 d.kind, .int .i64 d.int, .string d.text, .slice a d.list.length c], .bool ok]) ∧ DtAt w' (fun b => w.heap.size ≤ b) (.agg #[.int .i64 d.kind, .int .i64 d.int, .string d.text, .slice a d.list.length c]) d ∧ TlAt w' tb h left ∧ Save tb w w' ∧ (ok = true → r = some (d, left)) ∧ (ok = false → r = none ∧ d = .mk 0 0 ⟨#[]⟩ [])
end Go.Proofs.Ytalfnaielhbocaa
namespace Go.Proofs.Ytalfnaielhbocaa
open Go.RowKit
set_option maxRecDepth 100000
set_option linter.unusedVariables false
set_option linter.unusedSimpArgs false
def WordPost (s : ByteArray) (w : World) (e : Ending) (w' : World) : Prop := e = .returned (.tuple #[.agg #[.int .i64 4, .int .i64 0, .string s, .slice none 0 0], .bool true]) ∧ Below w.heap.size w w'
theorem word_any (s : ByteArray) (w : World) : Calls Try.prog 60 #[.string s] w (WordPost s w) := by
  unfold WordPost
  go_enter Try.func60, Try.ntmps60
  go_wp2_with fail
  refine bodyPost_ret (res2 rfl _ _ w.heap.size 31 _ (0, 0) rfl (heap_new (by simp)) datumD datumSize) rfl ?_
  exact ⟨rfl, (Below.refl _ _).alloc (Nat.le_refl _) _⟩
theorem tout_no {w w3 : World} {tb h left : Nat} (H : TlAt w3 tb h left) (hs : Save tb w w3) : TOut none tb h w (.returned (.tuple #[.agg #[.int .i64 0, .int .i64 0, .string ⟨#[]⟩, .slice none 0 0], .bool false])) w3 :=
  ⟨.mk 0 0 ⟨#[]⟩ [], none, 0, false, left, rfl, .nil _ _ _, H, hs, fun e => (by cases e), fun _ => ⟨rfl, rfl⟩⟩
set_option maxHeartbeats 2000000 in
set_option maxRecDepth 100000 in
theorem tell_no (T : List Hp.Th) (n tb h : Nat) (v : Hp.V) (deep left : Nat) (w : World) (H : TlAt w tb h left) (hno : left = 0 ∨ 32 < deep) :
    Calls Try.prog 41 #[.pointer (some ⟨tb, 0, none⟩), v.val, .int .i64 deep] w (TOut (Hp.tellF T n v deep left) tb h w) := by
  have e : Hp.tellF T n v deep left = none := by
    cases n with
    | zero => rfl
    | succ n => rw [Hp.tellF, if_pos hno]
  rw [e]
  obtain ⟨c0, c1, f0, f1, hlt⟩ := H.cells
  have HH := Lib.hid H
  clear H
  unfold Hp.V.val
  by_cases h0 : left = 0
  · have g1 : ((left : Int) == 0) = true := by simp [h0]
    clear hno h0 e
    go_enter Try.func41, Try.ntmps41
    go_wp2_with fail
    refine bodyPost_ret (res2 rfl _ _ (w.heap.size + 1) 31 _ (0, 0) rfl (heap_new (by simp)) datumD datumSize) rfl ?_
    exact tout_no (HH.out.bel (((Below.refl _ _).alloc (Nat.le_refl _) _).alloc (by simp) _) (Nat.le_refl _)) (Save.of (((Below.refl _ _).alloc (Nat.le_refl _) _).alloc (by simp) _))
  · have g1 : ((left : Int) == 0) = false := by simp [h0]
    have g2 : decide ((32 : Int) < deep) = true := decide_eq_true (by omega)
    clear hno h0 e
    go_enter Try.func41, Try.ntmps41
    go_wp2_with fail
    refine bodyPost_ret (res2 rfl _ _ (w.heap.size + 1) 31 _ (0, 0) rfl (heap_new (by simp)) datumD datumSize) rfl ?_
    exact tout_no (HH.out.bel (((Below.refl _ _).alloc (Nat.le_refl _) _).alloc (by simp) _) (Nat.le_refl _)) (Save.of (((Below.refl _ _).alloc (Nat.le_refl _) _).alloc (by simp) _)) 
theorem tell_head {w : World} {tb h left : Nat} (H : TlAt w tb h left) (h0 : left ≠ 0) (o p : Obj) : TlAt (((w.setCell ⟨tb, 1, none⟩ (.int .i64 ((left : Int) - 1))).alloc o).alloc p) tb h (left - 1) ∧ Save tb w (((w.setCell ⟨tb, 1, none⟩ (.int .i64 ((left : Int) - 1))).alloc o).alloc p) := by
  have hs : (w.setCell ⟨tb, 1, none⟩ (.int .i64 ((left : Int) - 1))).heap.size = w.heap.size := by simp [World.setCell]
  have hb : Below w.heap.size (w.setCell ⟨tb, 1, none⟩ (.int .i64 ((left : Int) - 1))) (((w.setCell ⟨tb, 1, none⟩ (.int .i64 ((left : Int) - 1))).alloc o).alloc p) := by
    have h1 : Below (w.setCell ⟨tb, 1, none⟩ (.int .i64 ((left : Int) - 1))).heap.size (w.setCell ⟨tb, 1, none⟩ (.int .i64 ((left : Int) - 1))) (((w.setCell ⟨tb, 1, none⟩ (.int .i64 ((left : Int) - 1))).alloc o).alloc p) := ((Below.refl _ _).alloc (Nat.le_refl _) _).alloc (by simp) _
    rw [hs] at h1
    exact h1
  have hS : Save tb w (w.setCell ⟨tb, 1, none⟩ (.int .i64 ((left : Int) - 1))) := (Save.of (Below.refl _ _)).set _
  refine ⟨?_, hS.trans (Save.of (hb.mono (by omega)))⟩
  rw [show (left : Int) - 1 = ((left - 1 : Nat) : Int) by omega] at hb ⊢
  exact (H.set (left' := left - 1)).bel hb (by rw [show ((left - 1 : Nat) : Int) = (left : Int) - 1 by omega, hs]; exact Nat.le_refl _)
theorem tout_leaf {w w3 : World} {tb h left : Nat} (H : TlAt w3 tb h left ∧ Save tb w w3) (k i : Int) (t : ByteArray) : TOut (some (.mk k i t [], left)) tb h w (.returned (.tuple #[.agg #[.int .i64 k, .int .i64 i, .string t, .slice none 0 0], .bool true])) w3 :=
  ⟨.mk k i t [], none, 0, true, left, rfl, .nil k i t, H.1, H.2, fun _ => rfl, fun e => by cases e⟩
set_option maxHeartbeats 4000000 in
set_option maxRecDepth 100000 in
theorem tell_leaf1 (tb h : Nat) (v : Hp.V) (deep left : Nat) (w : World) (H : TlAt w tb h left) (h0 : left ≠ 0) (hl : left ≤ 1000) (hd : deep ≤ 32) (hk : v.kind = 1 ∨ v.kind = 2 ∨ v.kind = 4 ∨ v.kind = 0) :
    Calls Try.prog 41 #[.pointer (some ⟨tb, 0, none⟩), v.val, .int .i64 deep] w (TOut (some (Hp.leafD v, left - 1)) tb h w) := by
  obtain ⟨c0, c1, f0, f1, hlt⟩ := H.cells
  have HH := Lib.hid (fun o p => tell_head H h0 o p)
  have g1 : ((left : Int) == 0) = false := by simp [h0]
  have g2 : decide ((32 : Int) < deep) = false := decide_eq_false (by omega)
  have g3 : (0 : Int) ≤ left := by omega
  have g4 : (left : Int) ≤ 1000 := by omega
  have HP : Hid (0 < left) := by show 0 < left; omega
  obtain ⟨vk, vi, vt⟩ := v
  clear H h0 hl hd
  unfold Hp.V.val
  dsimp only at *
  rcases hk with rfl | rfl | rfl | rfl
  all_goals
    go_enter Try.func41, Try.ntmps41
    go_wp2_with fail
    refine bodyPost_ret (res2 rfl _ _ (w.heap.size + 1) 31 _ (0, 0) rfl (heap_new (by simp [World.setCell])) datumD datumSize) rfl ?_
    exact tout_leaf (HH.out _ _) _ _ _
structure Wd (w w5 : World) (tb h left : Nat) : Prop where
  tl : TlAt w5 tb h left
  save : Save tb w w5
  res : w5.heap[w.heap.size + 1]? = some (.cells #[.int .i64 0, .int .i64 0, .string ⟨#[]⟩, .slice none 0 0] 31 (0, 0))
theorem wd_of {w w5 : World} {tb h left : Nat} {o : Obj} (H : TlAt (((w.setCell ⟨tb, 1, none⟩ (.int .i64 ((left : Int) - 1))).alloc o).alloc (.cells #[.int .i64 0, .int .i64 0, .string ⟨#[]⟩, .slice none 0 0] 31)) tb h (left - 1) ∧ Save tb w (((w.setCell ⟨tb, 1, none⟩ (.int .i64 ((left : Int) - 1))).alloc o).alloc (.cells #[.int .i64 0, .int .i64 0, .string ⟨#[]⟩, .slice none 0 0] 31)))
    (hb : Below (((w.setCell ⟨tb, 1, none⟩ (.int .i64 ((left : Int) - 1))).alloc o).alloc (.cells #[.int .i64 0, .int .i64 0, .string ⟨#[]⟩, .slice none 0 0] 31)).heap.size (((w.setCell ⟨tb, 1, none⟩ (.int .i64 ((left : Int) - 1))).alloc o).alloc (.cells #[.int .i64 0, .int .i64 0, .string ⟨#[]⟩, .slice none 0 0] 31)) w5) : Wd w w5 tb h (left - 1) := by
  refine ⟨H.1.bel hb (Nat.le_refl _), H.2.trans (Save.of hb), ?_⟩
  rw [hb.block _ (by simp [World.setCell])]
  exact heap_new (by simp [World.setCell])
theorem Wd.tout {w w5 : World} {tb h left : Nat} (H : Wd w w5 tb h left) (hlt : tb < w.heap.size) (k i : Int) (t : ByteArray) (x y z u : Value) : TOut (some (.mk k i t [], left)) tb h w (.returned (.tuple #[.agg #[.int .i64 k, .int .i64 i, .string t, .slice none 0 0], .bool true])) ((((w5.setCell ⟨w.heap.size + 1, 0, none⟩ x).setCell ⟨w.heap.size + 1, 1, none⟩ y).setCell ⟨w.heap.size + 1, 2, none⟩ z).setCell ⟨w.heap.size + 1, 3, none⟩ u) := by
  have hsize : ((((w5.setCell ⟨w.heap.size + 1, 0, none⟩ x).setCell ⟨w.heap.size + 1, 1, none⟩ y).setCell ⟨w.heap.size + 1, 2, none⟩ z).setCell ⟨w.heap.size + 1, 3, none⟩ u).heap.size = w5.heap.size := by simp [World.setCell]
  exact tout_leaf ⟨(four_other _ _ _ _ _ _ _ (by omega)).trans H.tl, ⟨H.save.os, H.save.tape, H.save.output, by rw [hsize]; exact H.save.size, fun b hb ho => (four_other _ _ _ _ _ _ _ (by omega)).trans (H.save.block b hb ho)⟩⟩ _ _ _
set_option maxHeartbeats 4000000 in
set_option maxRecDepth 100000 in
theorem tell_leaf2 (tb h : Nat) (v : Hp.V) (deep left : Nat) (w : World) (H : TlAt w tb h left) (h0 : left ≠ 0) (hl : left ≤ 1000) (hd : deep ≤ 32) (hk : v.kind = 3 ∨ v.kind = 5 ∨ v.kind = 6 ∨ v.kind = 7) :
    Calls Try.prog 41 #[.pointer (some ⟨tb, 0, none⟩), v.val, .int .i64 deep] w (TOut (some (Hp.leafD v, left - 1)) tb h w) := by
  obtain ⟨c0, c1, f0, f1, hlt⟩ := H.cells
  have HH := Lib.hid (fun o p => tell_head H h0 o p)
  have g1 : ((left : Int) == 0) = false := by simp [h0]
  have g2 : decide ((32 : Int) < deep) = false := decide_eq_false (by omega)
  have g3 : (0 : Int) ≤ left := by omega
  have g4 : (left : Int) ≤ 1000 := by omega
  have HP : Hid (0 < left) := by show 0 < left; omega
  have HC : Hid (∀ (s : ByteArray) (w1 : World), Calls Try.prog 60 #[.string s] w1 (WordPost s w1)) := fun s w1 => word_any s w1
  obtain ⟨vk, vi, vt⟩ := v
  clear H h0 hl hd
  unfold Hp.V.val
  unfold WordPost at HC
  dsimp only at *
  rcases hk with rfl | rfl | rfl | rfl
  all_goals
    go_enter Try.func41, Try.ntmps41
    go_wp2_with fail
    with_reducible refine (HC.out _ _).mono ?_
    rintro e w5 ⟨rfl, hb5⟩
    have HW := Lib.hid (wd_of (HH.out _ _) hb5)
    obtain ⟨r0, r1, r2, r3, m0, m1, m2, m3⟩ := Blk4.of HW.out.res
    clear hb5
    go_wp2_with fail
    refine bodyPost_ret (res2 rfl _ _ (w.heap.size + 1) 31 _ (0, 0) rfl (four_set _ _ _ _ _ _ _ _ _ _ _ HW.out.res) datumD datumSize) rfl ?_
    exact HW.out.tout hlt _ _ _ _ _ _ _
end Go.Proofs.Ytalfnaielhbocaa
namespace Go.Proofs.Ytalfnaielhbocaa
open Go.RowKit
set_option maxRecDepth 100000
set_option linter.unusedVariables false
set_option linter.unusedSimpArgs false
theorem HpAt.save {w w' : World} {ty h tb : Nat} {O : Nat → Prop} {vt : Value} {M : List (Hp.Th × Value)} (H : HpAt w ty h O vt M) (hs : Save tb w w') (hO : ¬ O tb) : HpAt w' ty h O vt M := H.keep hs.size fun b hb => hs.block b (H.lt b hb) fun e => hO (e ▸ hb)
theorem TOut.on {r : Option (Dt × Nat)} {tb h g : Nat} {w w4 w5 : World} {d : Dt} {ad : Option Addr} {cd : Nat} {ok : Bool} {left : Nat} (hw : Save tb w w4) (h1 : DtAt w5 (fun b => w4.heap.size ≤ b) (.agg #[.int .i64 d.kind, .int .i64 d.int, .string d.text, .slice ad d.list.length cd]) d) (h2 : TlAt w5 tb h left) (h3 : Save tb w4 w5) (h4 : ok = true → r = some (d, left)) (h5 : ok = false → r = none ∧ d = .mk 0 0 ⟨#[]⟩ []) (hlt : tb < w.heap.size) (hg : w.heap.size ≤ g) (hg4 : g < w4.heap.size) (x y z u : Value) :
    TOut r tb h w (.returned (.tuple #[.agg #[.int .i64 d.kind, .int .i64 d.int,   .string d.text, .slice ad d.list.length cd], .bool ok])) ((((w5.setCell ⟨g, 0, none⟩ x).setCell ⟨g, 1, none⟩ y).setCell ⟨g, 2, none⟩ z).setCell ⟨g, 3, none⟩ u) := by
  have hsize : ((((w5.setCell ⟨g, 0, none⟩ x).setCell ⟨g, 1, none⟩ y).setCell ⟨g, 2, none⟩ z).setCell ⟨g, 3, none⟩ u).heap.size = w5.heap.size := by simp [World.setCell]
  have hS := hw.trans h3
  have hz := hw.size
  exact ⟨d, ad, cd, ok, left, rfl, (h1.four (fun b hb => by omega) _ _ _ _).mono fun b hb _ => by omega, (four_other _ _ _ _ _ _ _ (by omega)).trans h2, ⟨hS.os, hS.tape, hS.output, by rw [hsize]; exact hS.size, fun b hb ho => (four_other _ _ _ _ _ _ _ (by omega)).trans (hS.block b hb ho)⟩, h4, h5⟩
set_option maxHeartbeats 4000000 in
set_option maxRecDepth 100000 in
theorem tell_thing {tb h : Nat} {O : Nat → Prop} {vt : Value} {M : List (Hp.Th × Value)} (f : Hp.V → Nat → Nat → Option (Dt × Nat)) (k : Nat) (deep left : Nat) (w : World) (HA : HpAt w 83 h O vt M) (hO : ¬ O tb) (H : TlAt w tb h left) (h0 : left ≠ 0) (hl : left ≤ 1000) (hd : deep ≤ 32) {m : Hp.Th × Value} (hm : M[k]? = some m)
    (HT : ∀ (w1 : World), HpAt w1 83 h O vt M → TlAt w1 tb h (left - 1) → Calls Try.prog 61 #[.pointer (some ⟨tb, 0, none⟩), .agg #[.int .i64 m.1.kind, m.2], .int .i64 deep] w1 (TOut (Hp.thingF f m.1 deep (left - 1)) tb h w1)) :
    Calls Try.prog 41 #[.pointer (some ⟨tb, 0, none⟩), .agg #[.int .i64 8, .int .i64 k, .string ⟨#[]⟩], .int .i64 deep] w (TOut (Hp.thingF f m.1 deep (left - 1)) tb h w) := by
  have hk : k < M.length := (List.getElem?_eq_some_iff.1 hm).1
  obtain ⟨c0, c1, f0, f1, hlt⟩ := H.cells
  have HW4 : Hid (∀ o p, TlAt (((w.setCell ⟨tb, 1, none⟩ (.int .i64 ((left : Int) - 1))).alloc o).alloc p).drew tb h (left - 1) ∧ Save tb w (((w.setCell ⟨tb, 1, none⟩ (.int .i64 ((left : Int) - 1))).alloc o).alloc p).drew ∧ HpAt (((w.setCell ⟨tb, 1, none⟩ (.int .i64 ((left : Int) - 1))).alloc o).alloc p).drew 83 h O vt M) := fun o p => by
    obtain ⟨h1, h2⟩ := tell_head H h0 o p
    have h3 := h2.trans (Save.of (Below.refl _ _).drew)
    exact ⟨h1.bel (Below.refl _ _).drew (Nat.le_refl _), h3, HA.save h3 hO⟩
  obtain ⟨ap, cp, hap⟩ := HA.partLen (List.mem_of_getElem? hm)
  obtain ⟨g, c, rfl, hg, hgh, d0, d1⟩ := HA.at hm
  have e0 := HA.c0
  have hhl := HA.lth
  have hh : h ≠ tb := fun e => hO (e ▸ HA.own.1)
  have hgt : g ≠ tb := fun e => hO (e ▸ HA.own.2.1 g rfl)
  rw [hap] at d1 HT
  have HR := Lib.hid HT
  have g1 : ((left : Int) == 0) = false := by simp [h0]
  have g2 : decide ((32 : Int) < deep) = false := decide_eq_false (by omega)
  have g3 : (0 : Int) ≤ left := by omega
  have g4 : (left : Int) ≤ 1000 := by omega
  have g5 : (0 : Int) ≤ k := by omega
  have g6 : (k : Int) < M.length := by omega
  have HP : Hid (0 < left) := by show 0 < left; omega
  clear H HA HT h0 hl hd hm hO
  obtain ⟨⟨kd, l⟩, pv⟩ := m
  dsimp only at *
  subst hap
  generalize Hp.thingF f ⟨kd, l⟩ deep (left - 1) = r at *
  go_enter Try.func41, Try.ntmps41
  go_wp2_with fail
  go_region_law (go_simp; go_wp2_with (first
    | (go_at_call 61; (with_reducible refine (HR.out _ (HW4.out _ _).2.2 (HW4.out _ _).1).mono ?_); rintro e w5 ⟨d, ad, cd, ok, left5, rfl, hd5, ht5, hs5, h4, h5⟩; have hz5 := (Save.block hs5 (w.heap.size + 1) (by simp [World.setCell, World.drew]) (by omega)).trans (heap_new (w := (w.setCell ⟨tb, 1, none⟩ (.int .i64 ((left : Int) - 1))).alloc (.cells #[.int .i64 8, .int .i64 k, .string ⟨#[]⟩] 64)) (by simp [World.setCell])); obtain ⟨r0, r1, r2, r3, m0, m1, m2, m3⟩ := Blk4.of hz5; have HZ5 := Lib.hid hz5; have HTO := Lib.hid (fun x y z u => TOut.on (r := r) (HW4.out _ _).2.1 hd5 ht5 hs5 h4 h5 hlt (show w.heap.size ≤ w.heap.size + 1 by omega) (by simp [World.setCell, World.drew]) x y z u); clear hz5 hd5 ht5 hs5 h4 h5)
    | fail))
  all_goals go_wp2_with fail
  all_goals
    refine bodyPost_ret (res2 rfl _ _ (w.heap.size + 1) 31 _ (0, 0) rfl (four_set _ _ _ _ _ _ _ _ _ _ _ HZ5.out) datumD datumSize) rfl ?_
    exact HTO.out _ _ _ _
end Go.Proofs.Ytalfnaielhbocaa
namespace Go.Proofs.Ytalfnaielhbocaa
open Go.RowKit
set_option maxRecDepth 100000
set_option linter.unusedVariables false
set_option linter.unusedSimpArgs false
set_option linter.unnecessarySimpa false
set_option maxHeartbeats 4000000 in
set_option maxRecDepth 100000 in
theorem thing_leaf (tb h : Nat) (kd : Int) (pv : Value) (hpv : ∃ a n c, pv = .slice a n c) (deep left : Nat) (w : World) (H : TlAt w tb h left) (hk : kd = 3 ∨ kd = 4) (f : Hp.V → Nat → Nat → Option (Dt × Nat)) (l : List Hp.V) :
    Calls Try.prog 61 #[.pointer (some ⟨tb, 0, none⟩), .agg #[.int .i64 kd, pv], .int .i64 deep] w (TOut (Hp.thingF f ⟨kd, l⟩ deep left) tb h w) := by
  obtain ⟨a, n, c, rfl⟩ := hpv
  have HH := Lib.hid H
  clear H
  rcases hk with rfl | rfl
  · show Calls _ _ _ _ (TOut (some (Hp.sym ⟨#[98, 111, 120]⟩, left)) tb h w)
    go_enter Try.func61, Try.ntmps61
    go_wp2_with fail
    refine bodyPost_ret (res2 rfl _ _ (w.heap.size + 1) 31 _ (0, 0) rfl (heap_new (by simp)) datumD datumSize) rfl ?_
    have hb := ((Below.refl _ w).alloc (Nat.le_refl _) (.cells #[.int .i64 3, .slice a n c] 118))
    exact tout_leaf ⟨HH.out.bel (((Below.refl _ _).alloc (Nat.le_refl _) _).alloc (by simp) _) (Nat.le_refl _), Save.of (((Below.refl _ _).alloc (Nat.le_refl _) _).alloc (by simp) _)⟩ _ _ _
  · show Calls _ _ _ _ (TOut (some (Hp.sym ⟨#[112, 114, 111, 99, 101, 100, 117, 114, 101]⟩, left)) tb h w)
    go_enter Try.func61, Try.ntmps61
    go_wp2_with fail
    refine bodyPost_ret (res2 rfl _ _ (w.heap.size + 1) 31 _ (0, 0) rfl (heap_new (by simp)) datumD datumSize) rfl ?_
    exact tout_leaf ⟨HH.out.bel (((Below.refl _ _).alloc (Nat.le_refl _) _).alloc (by simp) _) (Nat.le_refl _), Save.of (((Below.refl _ _).alloc (Nat.le_refl _) _).alloc (by simp) _)⟩ _ _ _
theorem HpAt.part3 {w : World} {ty h : Nat} {O : Nat → Prop} {vt : Value} {M : List (Hp.Th × Value)} (H : HpAt w ty h O vt M) {m : Hp.Th × Value} (hm : m ∈ M) {g n c : Nat} (he : m.2 = .slice (some ⟨g, 0, none⟩) n c) {j : Nat} {v : Hp.V} (hv : m.1.parts[j]? = some v) :
    g < w.heap.size ∧ w.cell? ⟨g, j * 3, none⟩ = some (.int .i64 v.kind) ∧ w.cell? ⟨g, j * 3 + 1, none⟩ = some (.int .i64 v.int) ∧ w.cell? ⟨g, j * 3 + 2, none⟩ = some (.string v.text) := by
  obtain ⟨g', c', e, h1, _, _, h2, h3, h4⟩ := H.part hm hv
  rw [he] at e
  simp at e
  obtain ⟨rfl, _, _⟩ := e
  exact ⟨h1, h2, h3, h4⟩
structure Tp (w w5 : World) (tb h left : Nat) (O : Nat → Prop) (vt : Value) (M : List (Hp.Th × Value)) (kd : Int) (pv : Value) : Prop where
  hp : HpAt w5 83 h O vt M
  tl : TlAt w5 tb h left
  save : Save tb w w5
  size : w.heap.size + 1 + 1 ≤ w5.heap.size
  box : w5.heap[w.heap.size]? = some (.cells #[.int .i64 kd, pv] 118 (0, 0))
  res : w5.heap[w.heap.size + 1]? = some (.cells #[.int .i64 0, .int .i64 0, .string ⟨#[]⟩, .slice none 0 0] 31 (0, 0))
theorem Tp.init {w : World} {tb h left : Nat} {O : Nat → Prop} {vt : Value} {M : List (Hp.Th × Value)} (kd : Int) (pv : Value) (HA : HpAt w 83 h O vt M) (H : TlAt w tb h left) :
    Tp w ((w.alloc (.cells #[.int .i64 kd, pv] 118)).alloc (.cells #[.int .i64 0, .int .i64 0, .string ⟨#[]⟩, .slice none 0 0] 31)) tb h left O vt M kd pv := by
  have hb : Below w.heap.size w ((w.alloc (.cells #[.int .i64 kd, pv] 118)).alloc (.cells #[.int .i64 0, .int .i64 0, .string ⟨#[]⟩, .slice none 0 0] 31)) := ((Below.refl _ _).alloc (Nat.le_refl _) _).alloc (by simp) _
  exact ⟨HA.below hb (Nat.le_refl _), H.bel hb (Nat.le_refl _), Save.of hb, by simp, (heap_alloc_old _ _ (by simp)).trans (heap_new rfl), heap_new (by simp)⟩
theorem Tp.step {w w5 w7 : World} {tb h left left7 : Nat} {O : Nat → Prop} {vt : Value} {M : List (Hp.Th × Value)} {kd : Int} {pv : Value} (H : Tp w w5 tb h left O vt M kd pv) (hO : ¬ O tb) (hlt : tb < w.heap.size) (hs : Save tb w5 w7) (ht : TlAt w7 tb h left7) : Tp w w7 tb h left7 O vt M kd pv := by
  have hz := H.size
  exact ⟨H.hp.save hs hO, ht, H.save.trans hs, Nat.le_trans hz hs.size, (hs.block _ (by omega) (by omega)).trans H.box, (hs.block _ (by omega) (by omega)).trans H.res⟩
theorem Tp.bel {w w5 w7 : World} {tb h left : Nat} {O : Nat → Prop} {vt : Value} {M : List (Hp.Th × Value)} {kd : Int} {pv : Value} (H : Tp w w5 tb h left O vt M kd pv) (hO : ¬ O tb) (hlt : tb < w.heap.size) (hs : Below w5.heap.size w5 w7) : Tp w w7 tb h left O vt M kd pv :=
  H.step hO hlt (Save.of hs) (H.tl.bel hs (Nat.le_refl _))
theorem Cell4.save {g tb : Nat} {a b c d : Value} {w w' : World} (h : Cell4 g a b c d w) (hs : Save tb w w') (hg : g < w.heap.size) (hne : g ≠ tb) : Cell4 g a b c d w' := h.same (hs.block g hg hne)
theorem dt_one {w : World} {S : Nat → Prop} {x : Dt} {lx : Value} (h : DtAt w S (.agg #[.int .i64 x.kind, .int .i64 x.int, .string x.text, lx]) x) {s : Nat} (hs : w.heap.size = s) (k i : Int) (t : ByteArray) (ty : TypeId) : DtAt (w.alloc (.cells #[.int .i64 x.kind, .int .i64 x.int, .string x.text, lx] ty)) (fun _ => True) (.agg #[.int .i64 k, .int .i64 i, .string t, .slice (some ⟨s, 0, none⟩) 1 1]) (.mk k i t [x]) := by
  subst hs
  refine .row k i t w.heap.size 0 1 [x] (fun _ => lx) trivial (by simp) (fun j y hy => ?_) (fun j y hy => ?_)
  · cases j with
    | zero =>
      simp at hy
      subst hy
      obtain ⟨h0, h1, h2, h3⟩ := new4 w (.int .i64 x.kind) (.int .i64 x.int) (.string x.text) lx ty
      exact ⟨by simpa using h0, by simpa using h1, by simpa using h2, by simpa using h3⟩
    | succ j => simp at hy
  · cases j with
    | zero =>
      simp at hy
      subst hy
      exact (h.bel (N := w.heap.size) ((Below.refl _ _).alloc (Nat.le_refl _) _) (Nat.le_refl _)).mono fun _ _ _ => trivial
    | succ j => simp at hy
theorem tp_no {w w5 : World} {tb h left : Nat} {O : Nat → Prop} {vt : Value} {M : List (Hp.Th × Value)} {kd : Int} {pv : Value} {r : Option (Dt × Nat)} (H : Tp w w5 tb h left O vt M kd pv) (hlt : tb < w.heap.size) (hr : r = none) (x y z u : Value) :
    TOut r tb h w (.returned (.tuple #[.agg #[.int .i64 0, .int .i64 0, .string ⟨#[]⟩, .slice none 0 0], .bool false])) ((((w5.setCell ⟨w.heap.size + 1, 0, none⟩ x).setCell ⟨w.heap.size + 1, 1, none⟩ y).setCell ⟨w.heap.size + 1, 2, none⟩ z).setCell ⟨w.heap.size + 1, 3, none⟩ u) := by
  subst hr
  have hsize : ((((w5.setCell ⟨w.heap.size + 1, 0, none⟩ x).setCell ⟨w.heap.size + 1, 1, none⟩ y).setCell ⟨w.heap.size + 1, 2, none⟩ z).setCell ⟨w.heap.size + 1, 3, none⟩ u).heap.size = w5.heap.size := by simp [World.setCell]
  exact tout_no ((four_other _ _ _ _ _ _ _ (by omega)).trans H.tl) ⟨H.save.os, H.save.tape, H.save.output, by rw [hsize]; exact H.save.size, fun b hb ho => (four_other _ _ _ _ _ _ _ (by omega)).trans (H.save.block b hb ho)⟩
theorem TOut.bel {r : Option (Dt × Nat)} {tb h : Nat} {w w' w2 : World} {e : Ending} (H : TOut r tb h w e w') (hb : Below w'.heap.size w' w2) : TOut r tb h w e w2 := by
  obtain ⟨d, a, c, ok, left, he, h1, h2, h3, h4, h5⟩ := H
  exact ⟨d, a, c, ok, left, he, h1.bel hb (Nat.le_refl _), h2.bel hb (Nat.le_refl _), h3.trans (Save.of hb), h4, h5⟩
theorem tp_on {w w5 : World} {tb h left : Nat} {O : Nat → Prop} {vt : Value} {M : List (Hp.Th × Value)} {kd : Int} {pv : Value} {r : Option (Dt × Nat)} {d : Dt} {a : Option Addr} {c : Nat} (H : Tp w w5 tb h left O vt M kd pv) (hlt : tb < w.heap.size) (hr : r = some (d, left)) (hd : DtAt w5 (fun b => w.heap.size + 1 + 1 ≤ b) (.agg #[.int .i64 d.kind, .int .i64 d.int, .string d.text, .slice a d.list.length c]) d) (x y z u : Value) :
    TOut r tb h w (.returned (.tuple #[.agg #[.int .i64 d.kind, .int .i64 d.int, .string d.text, .slice a d.list.length c], .bool true])) ((((w5.setCell ⟨w.heap.size + 1, 0, none⟩ x).setCell ⟨w.heap.size + 1, 1, none⟩ y).setCell ⟨w.heap.size + 1, 2, none⟩ z).setCell ⟨w.heap.size + 1, 3, none⟩ u) := by
  have hsize : ((((w5.setCell ⟨w.heap.size + 1, 0, none⟩ x).setCell ⟨w.heap.size + 1, 1, none⟩ y).setCell ⟨w.heap.size + 1, 2, none⟩ z).setCell ⟨w.heap.size + 1, 3, none⟩ u).heap.size = w5.heap.size := by simp [World.setCell]
  exact ⟨d, a, c, true, left, rfl, (hd.four (fun b hb => by omega) _ _ _ _).mono fun b hb _ => by omega, (four_other _ _ _ _ _ _ _ (by omega)).trans H.tl, ⟨H.save.os, H.save.tape, H.save.output, by rw [hsize]; exact H.save.size, fun b hb ho => (four_other _ _ _ _ _ _ _ (by omega)).trans (H.save.block b hb ho)⟩, fun _ => hr, fun e => by cases e⟩
theorem pair_mk {d d7 : Dt} {w7 : World} {a7 ad : Option Addr} {c7 cd : Nat} {S S7 : Nat → Prop} (h5 : DtAt w7 S (.agg #[.int .i64 d.kind, .int .i64 d.int, .string d.text, .slice ad d.list.length cd]) d) (h7 : DtAt w7 S7 (.agg #[.int .i64 d7.kind, .int .i64 d7.int, .string d7.text, .slice a7 d7.list.length c7]) d7) (hn : d.nodes ≤ 1000) (hn7 : d7.nodes ≤ 1000) (o : Obj) {s : Nat} (hs : w7.heap.size + 1 = s) (t : TypeId) :
    Calls Try.prog 74 #[.slice (some ⟨s, 0, none⟩) 1 1, .agg #[.int .i64 d7.kind, .int .i64 d7.int, .string d7.text, .slice a7 d7.list.length c7]] ((w7.alloc o).alloc (.cells #[.int .i64 d.kind, .int .i64 d.int, .string d.text, .slice ad d.list.length cd] t)) (DPost (mkD [d] d7) ((w7.alloc o).alloc (.cells #[.int .i64 d.kind, .int .i64 d.int, .string d.text, .slice ad d.list.length cd] t))) := by
  have hb : Below w7.heap.size w7 (w7.alloc o) := (Below.refl _ _).alloc (Nat.le_refl _) _
  have hb2 : Below (w7.alloc o).heap.size (w7.alloc o) ((w7.alloc o).alloc (.cells #[.int .i64 d.kind, .int .i64 d.int, .string d.text, .slice ad d.list.length cd] t)) := (Below.refl _ _).alloc (Nat.le_refl _) _
  have e7 := Dt.nodes_list d7
  have e7' := Dt.nodess_len d7.list
  refine make_any [d] d7 _ _ _ (by simp) (by simp) (by omega) (Dt.short_list (by simp [Dt.nodess]; omega) _ _ _) (Dt.short_of (by omega)) (dt_one (h5.bel hb (Nat.le_refl _)) (by simpa using hs) _ _ _ _) (((h7.bel hb (Nat.le_refl _)).bel hb2 (Nat.le_refl _)).mono fun _ _ _ => trivial)
set_option maxHeartbeats 4000000 in
set_option maxRecDepth 100000 in
theorem thing_pair {tb h : Nat} {O : Nat → Prop} {vt : Value} {M : List (Hp.Th × Value)} (f : Hp.V → Nat → Nat → Option (Dt × Nat)) (hf : Hp.Fits f) (deep left : Nat) (w : World) (HA : HpAt w 83 h O vt M) (hO : ¬ O tb) (H : TlAt w tb h left) (hl : left ≤ 1000) (hd : deep ≤ 32) {a b : Hp.V} {pv : Value} (hm : ((⟨0, [a, b]⟩ : Hp.Th), pv) ∈ M)
    (HT : ∀ (v : Hp.V) (dp lf : Nat) (w1 : World), dp ≤ deep + 1 → v ∈ [a, b] → lf ≤ left → HpAt w1 83 h O vt M → TlAt w1 tb h lf → Calls Try.prog 41 #[.pointer (some ⟨tb, 0, none⟩), v.val, .int .i64 dp] w1 (TOut (f v dp lf) tb h w1)) :
    Calls Try.prog 61 #[.pointer (some ⟨tb, 0, none⟩), .agg #[.int .i64 0, pv], .int .i64 deep] w (TOut (Hp.thingF f ⟨0, [a, b]⟩ deep left) tb h w) := by
  obtain ⟨c0, c1, f0, f1, hlt⟩ := H.cells
  obtain ⟨g, c, hpv, hg, hgh, _, _⟩ := HA.part hm (j := 0) (v := a) rfl
  dsimp only at hpv
  subst hpv
  have hgt : g ≠ tb := fun e => hO (e ▸ HA.own.2.2 _ hm g rfl)
  have HC : Hid (∀ (w1 : World), HpAt w1 83 h O vt M → (w1.cell? ⟨g, 0, none⟩ = some (.int .i64 a.kind) ∧ w1.cell? ⟨g, 1, none⟩ = some (.int .i64 a.int) ∧ w1.cell? ⟨g, 2, none⟩ = some (.string a.text)) ∧ w1.cell? ⟨g, 3, none⟩ = some (.int .i64 b.kind) ∧ w1.cell? ⟨g, 4, none⟩ = some (.int .i64 b.int) ∧ w1.cell? ⟨g, 5, none⟩ = some (.string b.text)) := fun w1 h1 => by
    have ha := h1.part3 hm rfl (j := 0) (v := a) rfl
    have hb := h1.part3 hm rfl (j := 1) (v := b) rfl
    exact ⟨⟨by simpa using ha.2.1, by simpa using ha.2.2.1, by simpa using ha.2.2.2⟩, by simpa using hb.2.1, by simpa using hb.2.2.1, by simpa using hb.2.2.2⟩
  obtain ⟨⟨p0, p1, p2⟩, _⟩ := HC.out w HA
  have HI := Lib.hid (Tp.init 0 (.slice (some ⟨g, 0, none⟩) 2 c) HA H)
  have HT1 : Hid (∀ (w1 : World), HpAt w1 83 h O vt M → TlAt w1 tb h left → Calls Try.prog 41 #[.pointer (some ⟨tb, 0, none⟩), .agg #[.int .i64 a.kind, .int .i64 a.int, .string a.text], .int .i64 ((deep : Int) + 1)] w1 (TOut (f a (deep + 1) left) tb h w1)) := fun w1 h1 h2 => HT a (deep + 1) left w1 (Nat.le_refl _) (by simp) (Nat.le_refl _) h1 h2
  have HT2 : Hid (∀ (lf : Nat) (w1 : World), lf ≤ left → HpAt w1 83 h O vt M → TlAt w1 tb h lf → Calls Try.prog 41 #[.pointer (some ⟨tb, 0, none⟩), .agg #[.int .i64 b.kind, .int .i64 b.int, .string b.text], .int .i64 deep] w1 (TOut (f b deep lf) tb h w1)) := fun lf w1 h0 h1 h2 => HT b deep lf w1 (by omega) (by simp) h0 h1 h2
  have HF := Lib.hid hf
  have HHO := Lib.hid hO
  have g3 : IntKind.i64.wrap ((deep : Int) + 1) = deep + 1 := by rw [IntKind.wrap_i64]; omega
  have g4 : (0 : Int) ≤ deep := by omega
  have g5 : (deep : Int) ≤ 32 := by omega
  have HL := Lib.hid hl
  clear H HA HT hm hf hO hl
  have eT : Hp.thingF f ⟨0, [a, b]⟩ deep left = (f a (deep + 1) left).bind fun x => (f b deep x.2).map fun y => (mkD [x.1] y.1, y.2) := rfl
  rw [eT]
  clear eT
  simp only [List.length_cons, List.length_nil] at *
  generalize hfa : f a (deep + 1) left = ra at *
  have HFA := Lib.hid hfa
  clear hfa
  go_enter Try.func61, Try.ntmps61
  go_wp2_with fail
  with_reducible refine (HT1.out _ HI.out.hp HI.out.tl).mono ?_
  rintro e w5 ⟨d, ad, cd, ok, left5, rfl, hd5, ht5, hs5, h4, h5⟩
  have HP5 := Lib.hid (HI.out.step HHO.out hlt hs5 ht5)
  have hz5 : w.heap.size + 1 < w5.heap.size := HP5.out.size
  have hz5' : w.heap.size < w5.heap.size := by omega
  obtain ⟨r0, r1, r2, r3, m0, m1, m2, m3⟩ := Blk4.of HP5.out.res
  cases ok with
  | false =>
    obtain ⟨rfl, rfl⟩ := h5 rfl
    clear h4 h5 hd5 ht5 hs5
    simp only [Dt.kind_mk, Dt.int_mk, Dt.text_mk, Dt.list_mk, List.length_nil]
    go_wp2_with fail
    refine bodyPost_ret (res2 rfl _ _ (w.heap.size + 1) 31 _ (0, 0) rfl ((heap_alloc_old _ _ (by simpa [World.setCell] using hz5)).trans (four_set _ _ _ _ _ _ _ _ _ _ _ HP5.out.res)) datumD datumSize) rfl ?_
    exact (tp_no HP5.out hlt rfl _ _ _ _).bel ((Below.refl _ _).alloc (Nat.le_refl _) _)
  | true =>
    have h4' := h4 rfl
    subst h4'
    have hfit : d.nodes + left5 ≤ left := HF.out a (deep + 1) left _ HFA.out
    have HN5 : Hid (d.nodes ≤ 1000) := by have := HL.out; show d.nodes ≤ 1000; omega
    have HL5 : Hid (left5 ≤ left) := by show left5 ≤ left; omega
    have HD5 : Hid (DtAt w5 (fun b => w.heap.size + 1 + 1 ≤ b) (.agg #[.int .i64 d.kind, .int .i64 d.int, .string d.text, .slice ad d.list.length cd]) d) := hd5.mono fun b hb _ => by simpa using hb
    obtain ⟨_, p3, p4, p5⟩ := HC.out w5 HP5.out.hp
    have hg5 : g < w5.heap.size := Nat.lt_of_lt_of_le hg (by omega)
    have b0 := cell_of_row w5 w.heap.size 0 _ _ _ HP5.out.box
    have b1 := cell_of_row w5 w.heap.size 1 _ _ _ HP5.out.box
    simp only [List.getElem?_toArray, List.getElem?_cons_zero, List.getElem?_cons_succ] at b0 b1
    have HB6 := Lib.hid ((Below.refl w5.heap.size w5).alloc (Nat.le_refl _) (.cells #[.int .i64 d.kind, .int .i64 d.int, .string d.text, .slice ad d.list.length cd] 31))
    have HP6 := Lib.hid (HP5.out.bel HHO.out hlt HB6.out)
    have HX6 := Lib.hid (show Cell4 w5.heap.size _ _ _ _ _ from new4 w5 (.int .i64 d.kind) (.int .i64 d.int) (.string d.text) (.slice ad d.list.length cd) 31)
    have HD6 := Lib.hid (HD5.out.bel HB6.out (Nat.le_refl _))
    generalize hfb : f b deep left5 = rb
    have HFB := Lib.hid hfb
    have HT3 := Lib.hid (hfb ▸ HT2.out left5 _ HL5.out HP6.out.hp HP6.out.tl)
    clear h4 h5 hd5 ht5 hs5 hfit hfb
    go_wp2_with fail
    with_reducible refine (HT3.out).mono ?_
    rintro e w7 ⟨d7, a7, c7, ok7, left7, rfl, hd7, ht7, hs7, h47, h57⟩
    have HP7 := Lib.hid (HP6.out.step HHO.out hlt hs7 ht7)
    have hz7 : w.heap.size + 1 < w7.heap.size := HP7.out.size
    have hz7' : w.heap.size < w7.heap.size := by omega
    have hx7 : w5.heap.size < w7.heap.size := by have := hs7.size; simp at this; omega
    obtain ⟨s0, s1, s2, s3, n0, n1, n2, n3⟩ := Blk4.of HP7.out.res
    cases ok7 with
    | false =>
      obtain ⟨rfl, rfl⟩ := h57 rfl
      clear h47 h57 hd7 ht7 hs7
      simp only [Dt.kind_mk, Dt.int_mk, Dt.text_mk, Dt.list_mk, List.length_nil]
      go_wp2_with fail
      refine bodyPost_ret (res2 rfl _ _ (w.heap.size + 1) 31 _ (0, 0) rfl ((heap_alloc_old _ _ (by simpa [World.setCell] using hz7)).trans (four_set _ _ _ _ _ _ _ _ _ _ _ HP7.out.res)) datumD datumSize) rfl ?_
      refine (tp_no HP7.out hlt ?_ _ _ _ _).bel ((Below.refl _ _).alloc (Nat.le_refl _) _)
      simp [HFB.out]
    | true =>
      have h47' := h47 rfl
      subst h47'
      have hfit : d7.nodes + left7 ≤ left5 := HF.out b deep left5 _ HFB.out
      have HN7 : Hid (d7.nodes ≤ 1000) := by have := HL.out; have := HL5.out; show d7.nodes ≤ 1000; omega
      have HD7 : Hid (DtAt w7 (fun b => w.heap.size + 1 + 1 ≤ b) (.agg #[.int .i64 d7.kind, .int .i64 d7.int, .string d7.text, .slice a7 d7.list.length c7]) d7) := hd7.mono fun b hb _ => by simp at hb; omega
      have HE7 := Lib.hid (HD6.out.save hs7 (by omega))
      obtain ⟨x0, x1, x2, x3⟩ := HX6.out.save hs7 (by simp) (by omega)
      have HMK := Lib.hid (fun o => pair_mk HE7.out HD7.out HN5.out HN7.out o (s := w7.heap.size + 1) rfl 31)
      unfold DPost at HMK
      clear h47 h57 hd7 ht7 hs7 hfit
      go_wp2_with fail
      with_reducible refine (HMK.out _).mono ?_
      rintro e w9 ⟨v, rfl, hd9, hb9⟩
      obtain ⟨a9, c9, rfl, _⟩ := hd9.inv
      have HB8 := Lib.hid (((Below.refl w7.heap.size w7).alloc (Nat.le_refl _) (.cells #[.int .i64 d7.kind, .int .i64 d7.int, .string d7.text, .slice a7 d7.list.length c7] 31)).alloc (by simp) (.cells #[.int .i64 d.kind, .int .i64 d.int, .string d.text, .slice ad d.list.length cd] 31))
      have HP9 := Lib.hid ((HP7.out.bel HHO.out hlt HB8.out).bel HHO.out hlt hb9)
      obtain ⟨t0, t1, t2, t3, k0, k1, k2, k3⟩ := Blk4.of HP9.out.res
      have HD9 := Lib.hid (hd9.mono (S' := fun b => w.heap.size + 1 + 1 ≤ b) fun b hb _ => by simp at hb; omega)
      clear hd9 hb9
      go_wp2_with fail
      refine bodyPost_ret (res2 rfl _ _ (w.heap.size + 1) 31 _ (0, 0) rfl (four_set _ _ _ _ _ _ _ _ _ _ _ HP9.out.res) datumD datumSize) rfl ?_
      refine (tp_on HP9.out hlt ?_ HD9.out _ _ _ _)
      simp [HFB.out]
end Go.Proofs.Ytalfnaielhbocaa
namespace Go.Proofs.Ytalfnaielhbocaa
open Go.RowKit
set_option maxRecDepth 100000
set_option linter.unusedVariables false
set_option linter.unusedSimpArgs false
set_option linter.unnecessarySimpa false
theorem Tp.low {w w5 w7 : World} {tb h left : Nat} {O : Nat → Prop} {vt : Value} {M : List (Hp.Th × Value)} {kd : Int} {pv : Value} (H : Tp w w5 tb h left O vt M kd pv) (hOlt : ∀ b, O b → b < w.heap.size) (hlt : tb < w.heap.size) (hb : Below (w.heap.size + 1 + 1) w5 w7) : Tp w w7 tb h left O vt M kd pv :=
  ⟨H.hp.keep hb.size fun b e => hb.block b (by have := hOlt b e; omega), (hb.block _ (by omega)).trans H.tl, ⟨hb.os.trans H.save.os, hb.tape.trans H.save.tape, hb.output.trans H.save.output, Nat.le_trans H.save.size hb.size, fun b h1 h2 => (hb.block b (by omega)).trans (H.save.block b h1 h2)⟩, Nat.le_trans H.size hb.size, (hb.block _ (by omega)).trans H.box, (hb.block _ (by omega)).trans H.res⟩
theorem OwnD.save {w w' : World} {B tb : Nat} {v : Value} {M : List (Dt × Value)} (h : OwnD w B v M) (hs : Save tb w w') (hB : tb < B) : OwnD w' B v M :=
  ⟨own_same h.row fun b e => hs.block b (h.row.lt b e).2 (by have := (h.row.lt b e).1; omega), fun m hm => (h.kids m hm).save hs (fun e => by have := e.1; omega)⟩
theorem OwnD.setLow {w : World} {B b i : Nat} {v : Value} {M : List (Dt × Value)} (h : OwnD w B v M) (hB : b < B) (u : Value) : OwnD (w.setCell ⟨b, i, none⟩ u) B v M :=
  ⟨own_same h.row fun k e => heap_setCell_other _ _ _ _ (by have := (h.row.lt k e).1; show k ≠ b; omega), fun m hm => (h.kids m hm).same (fun _ h _ => h) (by simp [World.setCell]) fun k hk _ => heap_setCell_other _ _ _ _ (by have := hk.1; show k ≠ b; omega)⟩
theorem listF_step {f : Hp.V → Nat → Nat → Option (Dt × Nat)} {dp left lk l' k : Nat} {l : List Hp.V} {v : Hp.V} {m : List Dt} {x : Dt} (hv : l[k]? = some v) (h : Hp.listF f dp (l.take k) left = some (m, lk)) (hx : f v dp lk = some (x, l')) : Hp.listF f dp (l.take (k + 1)) left = some (m ++ [x], l') := by
  rw [List.take_add_one, hv, Hp.listF_app, h]
  simp [Hp.listF, hx]
theorem listF_stop {f : Hp.V → Nat → Nat → Option (Dt × Nat)} {dp left lk k : Nat} {l : List Hp.V} {v : Hp.V} {m : List Dt} (hv : l[k]? = some v) (h : Hp.listF f dp (l.take k) left = some (m, lk)) (hx : f v dp lk = none) : Hp.listF f dp l left = none := by
  have hk : k < l.length := (List.getElem?_eq_some_iff.1 hv).1
  have e : l = l.take k ++ (v :: l.drop (k + 1)) := by
    have h1 : l[k] = v := (List.getElem?_eq_some_iff.1 hv).2
    rw [← h1, ← List.drop_eq_getElem_cons hk, List.take_append_drop]
  rw [e, Hp.listF_app, h]
  simp [Hp.listF, hx]
structure TvSt (w wx : World) (tb h left : Nat) (O : Nat → Prop) (vt : Value) (M : List (Hp.Th × Value)) (pv : Value) (f : Hp.V → Nat → Nat → Option (Dt × Nat)) (dp left0 : Nat) (l : List Hp.V) (k : Nat) (a : Option Addr) (c : Nat) (N : List (Dt × Value)) : Prop where
  tp : Tp w wx tb h left O vt M 1 pv
  row : wx.heap[w.heap.size + 1 + 1]? = some (.cells #[.int .i64 7, .int .i64 0, .string ⟨#[]⟩, .slice a k c] 31 (0, 0))
  own : OwnD wx (w.heap.size + 1 + 1 + 1) (.slice a k c) N
  told : Hp.listF f dp (l.take k) left0 = some (N.map (·.1), left)
  size : w.heap.size + 1 + 1 + 1 ≤ wx.heap.size
theorem TvSt.len {w wx : World} {tb h left : Nat} {O : Nat → Prop} {vt : Value} {M : List (Hp.Th × Value)} {pv : Value} {f : Hp.V → Nat → Nat → Option (Dt × Nat)} {dp left0 : Nat} {l : List Hp.V} {k : Nat} {a : Option Addr} {c : Nat} {N : List (Dt × Value)} (H : TvSt w wx tb h left O vt M pv f dp left0 l k a c N) (hk : k ≤ l.length) : N.length = k := by
  have := Hp.listF_len f dp _ _ _ H.told
  simp at this
  omega
theorem TvSt.call {w wx w7 : World} {tb h left left7 : Nat} {O : Nat → Prop} {vt : Value} {M : List (Hp.Th × Value)} {pv : Value} {f : Hp.V → Nat → Nat → Option (Dt × Nat)} {dp left0 : Nat} {l : List Hp.V} {k : Nat} {a : Option Addr} {c : Nat} {N : List (Dt × Value)} (H : TvSt w wx tb h left O vt M pv f dp left0 l k a c N) (hO : ¬ O tb) (hlt : tb < w.heap.size) {o : Obj} (hs : Save tb (wx.alloc o) w7) (ht : TlAt w7 tb h left7) :
    Tp w w7 tb h left7 O vt M 1 pv ∧ w7.heap[w.heap.size + 1 + 1]? = some (.cells #[.int .i64 7, .int .i64 0, .string ⟨#[]⟩, .slice a k c] 31 (0, 0)) ∧ OwnD w7 (w.heap.size + 1 + 1 + 1) (.slice a k c) N ∧ wx.heap.size + 1 ≤ w7.heap.size ∧ ∀ b, (Value.slice a k c).ownBlock = some b → b < wx.heap.size := by
  have hb : Below wx.heap.size wx (wx.alloc o) := (Below.refl _ _).alloc (Nat.le_refl _) _
  have hS := (Save.of (tb := tb) hb).trans hs
  have hz := H.size
  exact ⟨H.tp.step hO hlt hS ht, (hS.block _ (by omega) (by omega)).trans H.row, H.own.save hS (by omega), by have := hs.size; simpa using this, fun b e => (H.own.row.lt b e).2⟩
theorem TvSt.next {w wx w7 w9 : World} {tb h left left7 : Nat} {O : Nat → Prop} {vt : Value} {M : List (Hp.Th × Value)} {pv : Value} {f : Hp.V → Nat → Nat → Option (Dt × Nat)} {dp left0 : Nat} {l : List Hp.V} {k : Nat} {a : Option Addr} {c : Nat} {N : List (Dt × Value)} {v : Hp.V} {x : Dt} {ax : Option Addr} {cx g cap : Nat} {o o2 : Obj}
    (hk : l[k]? = some v) (hO : ∀ b, O b → b < w.heap.size) (hlt : tb < w.heap.size) (hlen : N.length = k)
    (hT : Tp w w7 tb h left7 O vt M 1 pv) (hrow : w7.heap[w.heap.size + 1 + 1]? = some (.cells #[.int .i64 7, .int .i64 0, .string ⟨#[]⟩, .slice a k c] 31 (0, 0))) (hown : OwnD w7 (w.heap.size + 1 + 1 + 1) (.slice a k c) N) (hz : wx.heap.size + 1 ≤ w7.heap.size) (hz2 : w.heap.size + 1 + 1 + 1 ≤ wx.heap.size) (hbl : ∀ b, (Value.slice a k c).ownBlock = some b → b < wx.heap.size)
    (htold : Hp.listF f dp (l.take k) left0 = some (N.map (·.1), left)) (hx : f v dp left = some (x, left7)) (hd : DtAt w7 (fun b => wx.heap.size + 1 ≤ b) (.agg #[.int .i64 x.kind, .int .i64 x.int, .string x.text, .slice ax x.list.length cx]) x)
    (h9 : w9.ownsRow (w.heap.size + 1 + 1 + 1) 31 4 (.slice (some ⟨g, 0, none⟩) (k + 1) cap) (k + 1) (flatD N ++ [.int .i64 x.kind, .int .i64 x.int, .string x.text, .slice ax x.list.length cx])) (hg : ((w7.alloc o).alloc o2).grownBy w9 (Value.slice a k c).ownBlock) (hl : (Value.slice a k c).ownBlock = some g ∨ g = ((w7.alloc o).alloc o2).heap.size) :
    TvSt w (w9.setCell ⟨w.heap.size + 1 + 1, 3, none⟩ (.slice (some ⟨g, 0, none⟩) (k + 1) cap)) tb h left7 O vt M pv f dp left0 l (k + 1) (some ⟨g, 0, none⟩) cap (N ++ [(x, .slice ax x.list.length cx)]) := by
  have hb : Below w7.heap.size w7 ((w7.alloc o).alloc o2) := ((Below.refl _ _).alloc (Nat.le_refl _) _).alloc (by simp) _
  have hb9 : Below (w.heap.size + 1 + 1 + 1) w7 w9 := (hb.mono (by omega)).grown hg (by have := hb.size; omega) fun b e => ((hown.row.lt b e).1)
  have hO1 := hown.bel hb (Nat.le_refl _)
  have hO2 : OwnD w9 (w.heap.size + 1 + 1 + 1) (.slice (some ⟨g, 0, none⟩) (k + 1) cap) (N ++ [(x, .slice ax x.list.length cx)]) := by
    have := hO1.snoc (x := x) (lv := .slice ax x.list.length cx) (hd.bel hb (Nat.le_refl _)) (fun b hb _ => ⟨by omega, fun e => by have := hbl b e; omega⟩) (by rw [hlen]; exact h9) hg hl
    rw [hlen] at this
    exact this
  refine ⟨(hT.low hO hlt (hb9.mono (by omega))).low hO hlt ((Below.refl _ _).setCell (by simp) _), ?_, hO2.setLow (by omega) _, ?_, ?_⟩
  · have e := (hb9.block (w.heap.size + 1 + 1) (by omega)).trans hrow
    exact heap_setCell_same _ _ 3 _ _ _ e
  · rw [List.map_append]
    exact listF_step hk htold hx
  · have := hb9.size
    simp [World.setCell]
    omega
theorem TvSt.first {w : World} {tb h left : Nat} {O : Nat → Prop} {vt : Value} {M : List (Hp.Th × Value)} {pv : Value} (f : Hp.V → Nat → Nat → Option (Dt × Nat)) (dp : Nat) (l : List Hp.V) (HA : HpAt w 83 h O vt M) (H : TlAt w tb h left) (hO : ¬ O tb) (hlt : tb < w.heap.size) :
    TvSt w (((w.alloc (.cells #[.int .i64 1, pv] 118)).alloc (.cells #[.int .i64 0, .int .i64 0, .string ⟨#[]⟩, .slice none 0 0] 31)).alloc (.cells #[.int .i64 7, .int .i64 0, .string ⟨#[]⟩, .slice none 0 0] 31)) tb h left O vt M pv f dp left l 0 none 0 [] := by
  refine ⟨(Tp.init 1 pv HA H).bel hO hlt ((Below.refl _ _).alloc (Nat.le_refl _) _), heap_new (by simp), OwnD.nil _ _, rfl, by simp⟩
set_option maxHeartbeats 4000000 in
set_option maxRecDepth 100000 in
theorem thing_vec {tb h : Nat} {O : Nat → Prop} {vt : Value} {M : List (Hp.Th × Value)} (f : Hp.V → Nat → Nat → Option (Dt × Nat)) (hf : Hp.Fits f) (deep left : Nat) (w : World) (HA : HpAt w 83 h O vt M) (hO : ¬ O tb) (H : TlAt w tb h left) (hl : left ≤ 1000) (hd : deep ≤ 32) {l : List Hp.V} {pv : Value} (hm : ((⟨1, l⟩ : Hp.Th), pv) ∈ M) (hlen : l.length ≤ 1000000)
    (HT : ∀ (v : Hp.V) (dp lf : Nat) (w1 : World), dp ≤ deep + 1 → v ∈ l → lf ≤ left → HpAt w1 83 h O vt M → TlAt w1 tb h lf → Calls Try.prog 41 #[.pointer (some ⟨tb, 0, none⟩), v.val, .int .i64 dp] w1 (TOut (f v dp lf) tb h w1)) :
    Calls Try.prog 61 #[.pointer (some ⟨tb, 0, none⟩), .agg #[.int .i64 1, pv], .int .i64 deep] w (TOut (Hp.thingF f ⟨1, l⟩ deep left) tb h w) := by
  obtain ⟨c0, c1, f0, f1, hlt⟩ := H.cells
  obtain ⟨ap, cp, hpv⟩ := HA.partLen hm
  dsimp only at hpv
  subst hpv
  obtain ⟨i0, hi, hz0, hz1, hz2⟩ := info_parts infoDatum
  have HDI := Lib.hid hi
  have HZ0 := Lib.hid hz0
  have HZ1 := Lib.hid hz1
  have HZ2 := Lib.hid hz2
  have HI := Lib.hid (TvSt.first (pv := .slice ap l.length cp) f (deep + 1) l HA H hO hlt)
  have HC : Hid (∀ (w1 : World) (k : Nat) (v : Hp.V), HpAt w1 83 h O vt M → l[k]? = some v → ∃ g, ap = some ⟨g, 0, none⟩ ∧ g < w.heap.size ∧ w1.cell? ⟨g, k * 3, none⟩ = some (.int .i64 v.kind) ∧ w1.cell? ⟨g, k * 3 + 1, none⟩ = some (.int .i64 v.int) ∧ w1.cell? ⟨g, k * 3 + 2, none⟩ = some (.string v.text)) := fun w1 k v h1 hv => by
    obtain ⟨g, c, e, hg, _⟩ := HA.part hm (j := k) (v := v) hv
    dsimp only at e
    simp at e
    obtain ⟨rfl, _⟩ := e
    obtain ⟨_, h2, h3, h4⟩ := h1.part3 hm rfl (j := k) (v := v) hv
    exact ⟨g, rfl, hg, h2, h3, h4⟩
  have HT2 : Hid (∀ (v : Hp.V) (lf : Nat) (w1 : World), v ∈ l → lf ≤ left → HpAt w1 83 h O vt M → TlAt w1 tb h lf → Calls Try.prog 41 #[.pointer (some ⟨tb, 0, none⟩), .agg #[.int .i64 v.kind, .int .i64 v.int, .string v.text], .int .i64 ((deep : Int) + 1)] w1 (TOut (f v (deep + 1) lf) tb h w1)) := fun v lf w1 hv h0 h1 h2 => HT v (deep + 1) lf w1 (Nat.le_refl _) hv h0 h1 h2
  have HF := Lib.hid hf
  have HHO := Lib.hid hO
  have HOL : Hid (∀ b, O b → b < w.heap.size) := fun b e => HA.lt b e
  have g3 : IntKind.i64.wrap ((deep : Int) + 1) = deep + 1 := by rw [IntKind.wrap_i64]; omega
  have g4 : (0 : Int) ≤ deep := by omega
  have g5 : (deep : Int) ≤ 32 := by omega
  have HL := Lib.hid hl
  have eT : Hp.thingF f ⟨1, l⟩ deep left = (Hp.listF f (deep + 1) l left).map fun m => (.mk 7 0 ⟨#[]⟩ m.1, m.2) := rfl
  rw [eT]
  clear H HA HT hm hf hO hl eT hi hz0 hz1 hz2
  go_enter Try.func61, Try.ntmps61
  go_wp2_with fail
  go_loopg [83] l.length (fun gk i wx => ∃ (k : Nat) (N : List (Dt × Value)) (a : Option Addr) (c lk : Nat), k ≤ l.length ∧ gk = l.length - k ∧ i = .int .i64 k ∧ Hid (TvSt w wx tb h lk O vt M (.slice ap l.length cp) f (deep + 1) left l k a c N))
  case atStart => exact ⟨0, [], none, 0, left, Nat.zero_le _, rfl, rfl, HI.out⟩
  case round =>
    obtain ⟨k, N, a, c, lk, hk, rfl, rfl, HS⟩ := hrel
    have hs := HS.out.size
    have hs1 : w.heap.size + 1 < wr.heap.size := by omega
    have hs2 : w.heap.size < wr.heap.size := by omega
    have hs3 : w.heap.size + 1 + 1 < wr.heap.size := by omega
    by_cases hlt2 : k < l.length
    · obtain ⟨v, hv⟩ : ∃ v, l[k]? = some v := ⟨_, List.getElem?_eq_getElem hlt2⟩
      obtain ⟨g, rfl, hg, p0, p1, p2⟩ := HC.out wr k v HS.out.tp.hp hv
      have hgw : g < wr.heap.size := by omega
      have hg1 : (0 : Int) ≤ k := by omega
      have hg2 : (k : Int) < l.length := by omega
      have hgk : IntKind.i64.wrap ((k : Int) + 1) = k + 1 := by rw [IntKind.wrap_i64]; omega
      have HV := Lib.hid hv
      have HLK : Hid (lk ≤ left) := by
        have := Hp.listF_fits HF.out _ _ _ _ HS.out.told
        show lk ≤ left
        omega
      generalize hfv : f v (deep + 1) lk = rv
      have HFV := Lib.hid hfv
      have hbA := (Below.refl wr.heap.size wr).alloc (Nat.le_refl _) (.cells #[.int .i64 v.kind, .int .i64 v.int, .string v.text] 64)
      have HTC := Lib.hid (hfv ▸ HT2.out v lk _ (List.mem_of_getElem? hv) HLK.out (HS.out.tp.hp.below hbA (Nat.le_refl _)) (HS.out.tp.tl.bel hbA (Nat.le_refl _)))
      clear hfv hv hbA
      go_wp2_with fail
      with_reducible refine (HTC.out).mono ?_
      rintro e w7 ⟨d7, a7, c7, ok7, left7, rfl, hd7, ht7, hs7, h47, h57⟩
      obtain ⟨hT7, hrow7, hown7, hz7, hbl7⟩ := HS.out.call HHO.out hlt hs7 ht7
      have HT7 := Lib.hid hT7
      have HROW7 := Lib.hid hrow7
      have HOWN7 := Lib.hid hown7
      have HBL7 := Lib.hid hbl7
      have hz71 : w.heap.size + 1 < w7.heap.size := by omega
      have hz72 : w.heap.size < w7.heap.size := by omega
      have hz73 : w.heap.size + 1 + 1 < w7.heap.size := by omega
      have hz74 : wr.heap.size < w7.heap.size := by omega
      obtain ⟨t0, t1, t2, t3, y0, y1, y2, y3⟩ := Blk4.of hT7.res
      obtain ⟨s0, s1, s2, s3, n0, n1, n2, n3⟩ := Blk4.of hrow7
      cases ok7 with
      | false =>
        obtain ⟨rfl, rfl⟩ := h57 rfl
        clear h47 h57 hd7 ht7 hs7 hT7 hrow7 hown7 hbl7
        simp only [Dt.kind_mk, Dt.int_mk, Dt.text_mk, Dt.list_mk, List.length_nil]
        go_wp2_with fail
        refine bodyPost_ret (res2 rfl _ _ (w.heap.size + 1) 31 _ (0, 0) rfl ((heap_alloc_old _ _ (by simpa [World.setCell] using hz71)).trans (four_set _ _ _ _ _ _ _ _ _ _ _ HT7.out.res)) datumD datumSize) rfl ?_
        refine (tp_no HT7.out hlt ?_ _ _ _ _).bel ((Below.refl _ _).alloc (Nat.le_refl _) _)
        rw [listF_stop HV.out HS.out.told HFV.out]
        rfl
      | true =>
        have h47' := h47 rfl
        subst h47'
        have HD7 : Hid (DtAt w7 (fun b => wr.heap.size + 1 ≤ b) (.agg #[.int .i64 d7.kind, .int .i64 d7.int, .string d7.text, .slice a7 d7.list.length c7]) d7) := hd7.mono fun b hb _ => by simpa using hb
        have hNL := HS.out.len hk
        have hrowN := hown7.row
        rw [hNL] at hrowN
        have HRN := Lib.hid hrowN
        have HNL := Lib.hid hNL
        have hbB := ((Below.refl w7.heap.size w7).alloc (Nat.le_refl _) (.cells #[.int .i64 d7.kind, .int .i64 d7.int, .string d7.text, .slice a7 d7.list.length c7] 31)).alloc (by simp) (.cells #[.int .i64 d7.kind, .int .i64 d7.int, .string d7.text, .slice a7 d7.list.length c7] 31)
        have HR9 := Lib.hid (own_same (w' := (w7.alloc (.cells #[.int .i64 d7.kind, .int .i64 d7.int, .string d7.text, .slice a7 d7.list.length c7] 31)).alloc (.cells #[.int .i64 d7.kind, .int .i64 d7.int, .string d7.text, .slice a7 d7.list.length c7] 31)) hrowN (fun b e => hbB.block b (by have := hbl7 b e; omega)))
        have hs9 := hbB.size
        clear h47 h57 hd7 ht7 hs7 hT7 hrow7 hown7 hbl7 hNL hrowN hbB
        go_wp2_with (at_builtin; refine wpList_append_lies _ rfl (.tmp 99) (.tmp 101) 29 rfl (w.heap.size + 1 + 1 + 1) 31 i0 _ 4 56 Try.underlying29 HDI.out HZ0.out HZ1.out HZ2.out rfl (by decide) (.slice a k c) k (flatD N) rfl ?a2 ⟨w7.heap.size + 1, 0, none⟩ 1 1 [.int .i64 d7.kind, .int .i64 d7.int, .string d7.text, .slice a7 d7.list.length c7] rfl rfl ?a4 ?a5 (by decide) ?a6 ?a7 ?a9 (w7.heap.size + 1 + 1) ?a8 ?_; (case a2 => exact HR9.out); (case a4 => exact (by simpa using new_cells4 (w7.alloc (.cells #[.int .i64 d7.kind, .int .i64 d7.int, .string d7.text, .slice a7 d7.list.length c7] 31)) _ _ _ _ _)); (case a5 => simp [Value.oneCell']); (case a6 => (simp only [maxLen]; omega)); (case a7 => omega); (case a9 => omega); (case a8 => simp); intro g9 cap w9 hown hgr hlies hlt9; have hX := TvSt.next HV.out HOL.out hlt HNL.out HT7.out HROW7.out HOWN7.out (by omega) hs HBL7.out HS.out.told HFV.out HD7.out hown hgr (by simpa using hlies); have hrow9 : w9.heap[w.heap.size + 1 + 1]? = some (.cells #[.int .i64 7, .int .i64 0, .string ⟨#[]⟩, .slice a k c] 31 (0, 0)) := (by rw [hgr.block _ (by omega) (fun e => by have := (HR9.out.lt _ e.symm).1; omega), heap_alloc_old _ _ (by simp; omega), heap_alloc_old _ _ (by omega)]; exact HROW7.out); obtain ⟨v0, v1, v2, v3, z0, z1, z2, z3⟩ := Blk4.of hrow9; have HX := Lib.hid hX; clear hX hrow9 hown hgr hlies hlt9)
        go_wp2_with fail
        go_roundg (l.length - (k + 1))
        case measure => omega
        case rel => exact ⟨k + 1, _, _, _, _, by omega, rfl, by go_num, HX.out⟩
    · obtain rfl : k = l.length := by omega
      have hNL := HS.out.len (Nat.le_refl _)
      obtain ⟨s0, s1, s2, s3, n0, n1, n2, n3⟩ := Blk4.of HS.out.row
      obtain ⟨t0, t1, t2, t3, y0, y1, y2, y3⟩ := Blk4.of HS.out.tp.res
      have HE := Lib.hid (HS.out.own.data 7 0 ⟨#[]⟩)
      have HNL := Lib.hid hNL
      clear hNL
      go_wp2_with fail
      refine bodyPost_ret (res2 rfl _ _ (w.heap.size + 1) 31 _ (0, 0) rfl (four_set _ _ _ _ _ _ _ _ _ _ _ HS.out.tp.res) datumD datumSize) rfl ?_
      have hE := HE.out
      have e : (N.map (·.1)).length = l.length := by rw [List.length_map, HNL.out]
      have htold := HS.out.told
      rw [List.take_length] at htold
      have := tp_on (d := .mk 7 0 ⟨#[]⟩ (N.map (·.1))) (a := a) (c := c) HS.out.tp hlt rfl ((show DtAt wr _ (.agg #[.int .i64 7, .int .i64 0, .string ⟨#[]⟩, .slice a (N.map (·.1)).length c]) _ from e ▸ hE).mono fun b hb _ => by omega)
      simp only [Dt.kind_mk, Dt.int_mk, Dt.text_mk, Dt.list_mk, e] at this
      rw [htold]
      exact this _ _ _ _
end Go.Proofs.Ytalfnaielhbocaa
namespace Go.Proofs.Ytalfnaielhbocaa
open Go.RowKit
set_option maxRecDepth 100000
set_option linter.unusedVariables false
set_option linter.unusedSimpArgs false
set_option linter.unnecessarySimpa false
theorem infoByte : (Try.prog.info? 5).map (fun i => (i.zero, i.size, i.bytes)) = some (some (.int .u8 0), 1, 1) := by kernel_rfl
def bytesC (l : List Hp.V) : List Value := l.map fun v => .int .u8 (v.int % 256)
theorem conv_bytes {w : World} {B : Nat} {a : Option Addr} {c : Nat} (l : List Hp.V) (h : w.ownsRow B 5 1 (.slice a l.length c) l.length (bytesC l)) : (convert 65 9 (.slice a l.length c)).run Try.prog w = .ok (.string (Hp.textOf l)) w := by
  rcases own_shape h with ⟨e, e2, e3⟩ | ⟨g, cap, e, h0, h1, h2, h3⟩
  · simp at e
    obtain ⟨rfl, h0, rfl⟩ := e
    have : l = [] := h0
    subst this
    exact run_convert_bytes_nil w 65 5 Try.underlying65 Try.underlying5 _ _ 9 Try.underlying9
  · simp at e
    obtain ⟨rfl, rfl⟩ := e
    refine run_convert_bytes_arg w 65 5 Try.underlying65 Try.underlying5 g 0 l.length c (l.map fun v => v.int % 256) (by simp) (fun i hi => ?_) 9 Try.underlying9
    rw [Nat.zero_add, h.cellAt i (by omega)]
    simp [bytesC, List.getD, List.getElem?_eq_getElem hi]
theorem bytesC_snoc {l : List Hp.V} {k : Nat} {v : Hp.V} (hv : l[k]? = some v) : bytesC (l.take (k + 1)) = bytesC (l.take k) ++ [.int .u8 (v.int % 256)] := by
  rw [List.take_add_one, hv]
  simp [bytesC]
theorem new_cell1 {w : World} {x : Value} {t : TypeId} {s : Nat} (hs : w.heap.size = s) : ∀ (j : Nat) (u : Value), [x][j]? = some u → (w.alloc (.cells #[x] t)).cell? ((⟨s, 0, none⟩ : Addr).add j) = some u := by
  intro j u hu
  subst hs
  rw [Addr.add_mid, Nat.zero_add, cell_of_row _ _ _ _ _ _ (heap_alloc_new w _)]
  simpa using hu
set_option maxHeartbeats 4000000 in
set_option maxRecDepth 100000 in
theorem thing_str {tb h : Nat} {O : Nat → Prop} {vt : Value} {M : List (Hp.Th × Value)} (f : Hp.V → Nat → Nat → Option (Dt × Nat)) (deep left : Nat) (w : World) (HA : HpAt w 83 h O vt M) (hO : ¬ O tb) (H : TlAt w tb h left) {l : List Hp.V} {pv : Value} (hm : ((⟨2, l⟩ : Hp.Th), pv) ∈ M) (hlen : l.length ≤ 1000000) :
    Calls Try.prog 61 #[.pointer (some ⟨tb, 0, none⟩), .agg #[.int .i64 2, pv], .int .i64 deep] w (TOut (Hp.thingF f ⟨2, l⟩ deep left) tb h w) := by
  obtain ⟨c0, c1, f0, f1, hlt⟩ := H.cells
  obtain ⟨ap, cp, hpv⟩ := HA.partLen hm
  dsimp only at hpv
  subst hpv
  obtain ⟨i0, hi, hz0, hz1, hz2⟩ := info_parts infoByte
  have HDI := Lib.hid hi
  have HZ0 := Lib.hid hz0
  have HZ1 := Lib.hid hz1
  have HZ2 := Lib.hid hz2
  have HI := Lib.hid (Tp.init 2 (.slice ap l.length cp) HA H)
  have HC : Hid (∀ (w1 : World) (k : Nat) (v : Hp.V), HpAt w1 83 h O vt M → l[k]? = some v → ∃ g, ap = some ⟨g, 0, none⟩ ∧ g < w.heap.size ∧ w1.cell? ⟨g, k * 3, none⟩ = some (.int .i64 v.kind) ∧ w1.cell? ⟨g, k * 3 + 1, none⟩ = some (.int .i64 v.int) ∧ w1.cell? ⟨g, k * 3 + 2, none⟩ = some (.string v.text)) := fun w1 k v h1 hv => by
    obtain ⟨g, c, e, hg, _⟩ := HA.part hm (j := k) (v := v) hv
    dsimp only at e
    simp at e
    obtain ⟨rfl, _⟩ := e
    obtain ⟨_, h2, h3, h4⟩ := h1.part3 hm rfl (j := k) (v := v) hv
    exact ⟨g, rfl, hg, h2, h3, h4⟩
  have HOL : Hid (∀ b, O b → b < w.heap.size) := fun b e => HA.lt b e
  have eT : Hp.thingF f ⟨2, l⟩ deep left = some (.mk 3 0 (Hp.textOf l) [], left) := rfl
  rw [eT]
  clear H HA hm hO eT hi hz0 hz1 hz2
  go_enter Try.func61, Try.ntmps61
  go_wp2_with fail
  go_loopg [8, 32] l.length (fun gk s8 i wx => ∃ (k : Nat) (a : Option Addr) (c : Nat), k ≤ l.length ∧ gk = l.length - k ∧ i = .int .i64 k ∧ s8 = .slice a k c ∧ Hid (Tp w wx tb h left O vt M 2 (.slice ap l.length cp)) ∧ Hid (wx.ownsRow (w.heap.size + 1 + 1) 5 1 (.slice a k c) k (bytesC (l.take k))))
  case atStart => exact ⟨0, none, 0, Nat.zero_le _, rfl, rfl, rfl, HI.out, World.ownsRow_nil _ _ _ _⟩
  case round =>
    obtain ⟨k, a, c, hk, rfl, rfl, rfl, HS, HR⟩ := hrel
    have hs := HS.out.size
    by_cases hlt2 : k < l.length
    · obtain ⟨v, hv⟩ : ∃ v, l[k]? = some v := ⟨_, List.getElem?_eq_getElem hlt2⟩
      obtain ⟨g, rfl, hg, p0, p1, p2⟩ := HC.out wr k v HS.out.hp hv
      have hgw : g < wr.heap.size := by omega
      have hg1 : (0 : Int) ≤ k := by omega
      have hg2 : (k : Int) < l.length := by omega
      have hgk : IntKind.i64.wrap ((k : Int) + 1) = k + 1 := by rw [IntKind.wrap_i64]; omega
      have HV := Lib.hid hv
      have hbB := ((Below.refl wr.heap.size wr).alloc (Nat.le_refl _) (.cells #[.int .i64 v.kind, .int .i64 v.int, .string v.text] 64)).alloc (by simp) (.cells #[.int .u8 (v.int % 256)] 5)
      have HB9 := Lib.hid hbB
      have HR9 := Lib.hid (own_same HR.out (fun b e => hbB.block b (by have := (HR.out.lt b e).2; omega)))
      have hs9 := hbB.size
      clear hv hbB
      go_wp2_with (at_builtin; refine wpList_append_lies _ rfl (.tmp 36) (.tmp 40) 65 rfl (w.heap.size + 1 + 1) 5 i0 _ 1 1 Try.underlying65 HDI.out HZ0.out HZ1.out HZ2.out rfl (by decide) (.slice a k c) k (bytesC (l.take k)) rfl ?a2 ⟨wr.heap.size + 1, 0, none⟩ 1 1 [.int .u8 (v.int % 256)] rfl rfl ?a4 ?a5 (by decide) ?a6 ?a7 ?a9 (wr.heap.size + 1 + 1) ?a8 ?_; (case a2 => exact HR9.out); (case a4 => exact new_cell1 (by simp)); (case a5 => simp [Value.oneCell']); (case a6 => (simp only [maxLen]; omega)); (case a7 => omega); (case a9 => omega); (case a8 => simp); intro g9 cap w9 hown hgr hlies hlt9; rw [← bytesC_snoc HV.out] at hown; have HOWN := Lib.hid hown; have HS9 := Lib.hid (HS.out.low HOL.out hlt ((HB9.out.mono hs).grown hgr (Nat.le_trans hs HB9.out.size) (fun b e => (HR.out.lt b e).1))); clear hown hgr hlies hlt9)
      go_wp2_with fail
      go_roundg (l.length - (k + 1))
      case measure => omega
      case rel => exact ⟨k + 1, _, _, by omega, rfl, by go_num, rfl, HS9.out, HOWN.out⟩
    · obtain rfl : k = l.length := by omega
      have hr := HR.out
      rw [List.take_length] at hr
      have hconv := conv_bytes l hr
      obtain ⟨t0, t1, t2, t3, y0, y1, y2, y3⟩ := Blk4.of HS.out.res
      clear hr
      go_wp2_with fail
      refine bodyPost_ret (res2 rfl _ _ (w.heap.size + 1) 31 _ (0, 0) rfl (four_set _ _ _ _ _ _ _ _ _ _ _ HS.out.res) datumD datumSize) rfl ?_
      exact tp_on (d := .mk 3 0 (Hp.textOf l) []) HS.out hlt rfl (.nil _ _ _) _ _ _ _
end Go.Proofs.Ytalfnaielhbocaa
namespace Go.Proofs.Ytalfnaielhbocaa
open Go.RowKit
set_option maxRecDepth 100000
set_option linter.unusedVariables false
set_option linter.unusedSimpArgs false
set_option linter.unnecessarySimpa false
namespace Hp
structure WfT (T : List Th) : Prop where
  kind : ∀ t ∈ T, t.kind = 0 ∨ t.kind = 1 ∨ t.kind = 2 ∨ t.kind = 3 ∨ t.kind = 4
  pair : ∀ t ∈ T, t.kind = 0 → t.parts.length = 2
  box : ∀ t ∈ T, t.kind = 3 → t.parts.length = 1
  len : ∀ t ∈ T, t.parts.length ≤ 1000
  may : ∀ t ∈ T, ∀ p ∈ t.parts, may T.length p = true
theorem may_kinds {n : Nat} {v : V} (h : may n v = true) : (v.kind = 1 ∨ v.kind = 2 ∨ v.kind = 4 ∨ v.kind = 0) ∨ (v.kind = 3 ∨ v.kind = 5 ∨ v.kind = 6 ∨ v.kind = 7) ∨ v.kind = 8 := by
  unfold may at h
  by_cases h3 : v.kind = 3
  · exact .inr (.inl (.inl h3))
  · rw [if_neg h3] at h
    by_cases h0 : v.kind = 0
    · exact .inl (by omega)
    by_cases h1 : v.kind = 1
    · exact .inl (by omega)
    by_cases h2 : v.kind = 2
    · exact .inl (by omega)
    by_cases h4 : v.kind = 4 ∨ v.kind = 5 ∨ v.kind = 6 ∨ v.kind = 7
    · rcases h4 with h | h | h | h
      · exact .inl (by omega)
      · exact .inr (.inl (by omega))
      · exact .inr (.inl (by omega))
      · exact .inr (.inl (by omega))
    by_cases h8 : v.kind = 8
    · exact .inr (.inr h8)
    · simp [h0, h1, h2, h4, h8] at h
end Hp
theorem tell_n {tb h : Nat} {O : Nat → Prop} {vt : Value} {M : List (Hp.Th × Value)} (hW : Hp.WfT (M.map (·.1))) (hO : ¬ O tb) : ∀ (n : Nat) (v : Hp.V) (deep left : Nat) (w : World), left ≤ n → left ≤ 1000 → deep ≤ 33 → Hp.may M.length v = true → HpAt w 83 h O vt M → TlAt w tb h left →
    Calls Try.prog 41 #[.pointer (some ⟨tb, 0, none⟩), v.val, .int .i64 deep] w (TOut (Hp.tellF (M.map (·.1)) n v deep left) tb h w)
  | 0, v, deep, left, w, h1, h2, h3, h4, h5, h6 => tell_no _ 0 tb h v deep left w h6 (.inl (by omega))
  | n + 1, v, deep, left, w, h1, h2, h3, h4, h5, h6 => by
    by_cases hno : left = 0 ∨ 32 < deep
    · exact tell_no _ (n + 1) tb h v deep left w h6 hno
    · have hl0 : left ≠ 0 := fun e => hno (.inl e)
      have hd : deep ≤ 32 := by omega
      rcases Hp.may_kinds h4 with hk | hk | hk
      · have e : Hp.tellF (M.map (·.1)) (n + 1) v deep left = some (Hp.leafD v, left - 1) := by
          rw [Hp.tellF, if_neg hno, if_neg (by omega)]
        rw [e]
        exact tell_leaf1 tb h v deep left w h6 hl0 h2 hd hk
      · have e : Hp.tellF (M.map (·.1)) (n + 1) v deep left = some (Hp.leafD v, left - 1) := by
          rw [Hp.tellF, if_neg hno, if_neg (by omega)]
        rw [e]
        exact tell_leaf2 tb h v deep left w h6 hl0 h2 hd hk
      · obtain ⟨k, hkl, rfl⟩ := Hp.may_thing' h4 hk
        obtain ⟨m, hm⟩ : ∃ m, M[k]? = some m := ⟨_, List.getElem?_eq_getElem hkl⟩
        have hmm := List.mem_of_getElem? hm
        have hmT : m.1 ∈ M.map (·.1) := List.mem_map.2 ⟨m, hmm, rfl⟩
        have e : Hp.tellF (M.map (·.1)) (n + 1) ⟨8, k, ⟨#[]⟩⟩ deep left = Hp.thingF (Hp.tellF (M.map (·.1)) n) m.1 deep (left - 1) := by
          rw [Hp.tellF, if_neg hno, if_pos rfl]
          simp [List.getElem?_map, hm]
        rw [e]
        refine tell_thing (Hp.tellF (M.map (·.1)) n) k deep left w h5 hO h6 hl0 h2 hd hm fun w1 g5 g6 => ?_
        have hlen : m.1.parts.length ≤ 1000000 := Nat.le_trans (hW.len _ hmT) (by decide)
        have hF := Hp.tellF_fits (M.map (·.1)) n
        have hIH : ∀ (v : Hp.V) (dp lf : Nat) (w2 : World), dp ≤ 33 → v ∈ m.1.parts → lf ≤ left - 1 → HpAt w2 83 h O vt M → TlAt w2 tb h lf → Calls Try.prog 41 #[.pointer (some ⟨tb, 0, none⟩), v.val, .int .i64 dp] w2 (TOut (Hp.tellF (M.map (·.1)) n v dp lf) tb h w2) := fun v dp lf w2 hdp hv hlf i5 i6 =>
          tell_n hW hO n v dp lf w2 (by omega) (by omega) hdp (by have := hW.may _ hmT v hv; simpa using this) i5 i6
        have hpl := g5.partLen hmm
        have hpair := hW.pair _ hmT
        have hkd := hW.kind _ hmT
        clear h5 h6 e hmT
        obtain ⟨⟨kd, l⟩, pv⟩ := m
        dsimp only at *
        rcases hkd with rfl | rfl | rfl | rfl | rfl
        · have hl2 := hpair rfl
          obtain ⟨a, b, rfl⟩ : ∃ a b, l = [a, b] := by
            rcases l with _ | ⟨a, _ | ⟨b, _ | ⟨c, l⟩⟩⟩
            · simp at hl2
            · simp at hl2
            · exact ⟨a, b, rfl⟩
            · simp at hl2
          exact thing_pair _ hF deep (left - 1) w1 g5 hO g6 (by omega) hd hmm fun v dp lf w2 hdp hv hlf i5 i6 => hIH v dp lf w2 (by omega) hv hlf i5 i6
        · exact thing_vec _ hF deep (left - 1) w1 g5 hO g6 (by omega) hd hmm hlen fun v dp lf w2 hdp hv hlf i5 i6 => hIH v dp lf w2 (by omega) hv hlf i5 i6
        · exact thing_str _ deep (left - 1) w1 g5 hO g6 hmm hlen
        · obtain ⟨a, c, e⟩ := hpl
          exact thing_leaf tb h 3 pv ⟨a, _, c, e⟩ deep (left - 1) w1 g6 (.inl rfl) _ l
        · obtain ⟨a, c, e⟩ := hpl
          exact thing_leaf tb h 4 pv ⟨a, _, c, e⟩ deep (left - 1) w1 g6 (.inr rfl) _ l
def Hp.tellT (T : List Hp.Th) (v : Hp.V) : Option Dt := if Hp.may T.length v = true then (Hp.tellF T 200 v 0 200).map (·.1) else Option.none
def DtOut (r : Option Dt) (w : World) (e : Ending) (w' : World) : Prop :=
  ∃ (d : Dt) (a : Option Addr) (c : Nat), e = .returned (.tuple #[.agg #[.int .i64 d.kind, .int .i64 d.int, .string d.text, .slice a d.list.length c], .bool r.isSome]) ∧ DtAt w' (fun b => w.heap.size ≤ b) (.agg #[.int .i64 d.kind, .int .i64 d.int, .string d.text, .slice a d.list.length c]) d ∧ Below w.heap.size w w' ∧ d = r.getD (.mk 0 0 ⟨#[]⟩ [])
theorem dtout_no {w w' : World} (h : Below w.heap.size w w') : DtOut none w (.returned (.tuple #[.agg #[.int .i64 0, .int .i64 0, .string ⟨#[]⟩, .slice none 0 0], .bool false])) w' := ⟨.mk 0 0 ⟨#[]⟩ [], none, 0, rfl, .nil _ _ _, h, rfl⟩
theorem tell_end {T : List Hp.Th} {v : Hp.V} {h : Nat} {w w3 w5 : World} {o : Obj} {d : Dt} {a : Option Addr} {c : Nat} {ok : Bool} {left : Nat} (hm : Hp.may T.length v = true) (hw : Below w.heap.size w w3) (hg : w.heap.size + 1 < w3.heap.size) (hd : DtAt w5 (fun b => (w3.alloc o).heap.size ≤ b) (.agg #[.int .i64 d.kind, .int .i64 d.int, .string d.text, .slice a d.list.length c]) d) (hs : Save w3.heap.size (w3.alloc o) w5)
    (h4 : ok = true → Hp.tellF T 200 v 0 200 = some (d, left)) (h5 : ok = false → Hp.tellF T 200 v 0 200 = none ∧ d = .mk 0 0 ⟨#[]⟩ []) (x y z u : Value) :
    DtOut (Hp.tellT T v) w (.returned (.tuple #[.agg #[.int .i64 d.kind, .int .i64 d.int, .string d.text, .slice a d.list.length c], .bool ok])) ((((w5.setCell ⟨w.heap.size + 1, 0, none⟩ x).setCell ⟨w.heap.size + 1, 1, none⟩ y).setCell ⟨w.heap.size + 1, 2, none⟩ z).setCell ⟨w.heap.size + 1, 3, none⟩ u) := by
  have e : Hp.tellT T v = (Hp.tellF T 200 v 0 200).map (·.1) := by rw [Hp.tellT, if_pos hm]
  have hz : w3.heap.size + 1 ≤ w5.heap.size := by have := hs.size; simpa using this
  have hb : Below w.heap.size w w5 := (hw.alloc (by omega) o).trans (hs.below (by omega) (by simp; omega))
  refine ⟨d, a, c, ?_, (hd.four (fun b hb => by simp at hb; omega) _ _ _ _).mono fun b hb _ => by simp at hb; omega, below_four hb (by omega) _ _ _ _, ?_⟩
  · rw [e]
    cases ok with
    | true => rw [h4 rfl]; rfl
    | false => rw [(h5 rfl).1]; rfl
  · rw [e]
    cases ok with
    | true => rw [h4 rfl]; rfl
    | false => rw [(h5 rfl).1]; exact (h5 rfl).2
theorem tl_new (w : World) (h : Nat) : TlAt (w.alloc (.cells #[.pointer (some ⟨h, 0, none⟩), .int .i64 200] 95)) w.heap.size h 200 := heap_alloc_new w _
set_option maxHeartbeats 4000000 in
set_option maxRecDepth 100000 in
theorem Tell_any {h : Nat} {O : Nat → Prop} {T : List Hp.Th} (v : Hp.V) (w : World) (H : HSt w 83 h O T) (hW : Hp.WfT T) (ht : v.text.size ≤ maxLen) :
    Calls Try.prog 25 #[.pointer (some ⟨h, 0, none⟩), v.val] w (DtOut (Hp.tellT T v) w) := by
  obtain ⟨vt, M, HA, rfl⟩ := H
  have hhl := HA.lth
  obtain ⟨a, c, rfl⟩ := HA.shape
  have HM : Hid (∀ w1, Below w.heap.size w w1 → Calls Try.prog 40 #[.pointer (some ⟨h, 0, none⟩), v.val] w1 fun e w' => e = .returned (.bool (Hp.may M.length v)) ∧ Below w1.heap.size w1 w') := fun w1 hb => may_any h M.length c a v ht w1 (HA.below hb (Nat.le_refl _)).c0 (HA.below hb (Nat.le_refl _)).lth
  have HHA := Lib.hid HA
  have HOL : Hid (∀ b, O b → b < w.heap.size) := fun b e => HA.lt b e
  have HW := Lib.hid hW
  have hb1 := ((Below.refl w.heap.size w).alloc (Nat.le_refl _) (.cells #[.int .i64 v.kind, .int .i64 v.int, .string v.text] 64)).alloc (by simp) (.cells #[.int .i64 0, .int .i64 0, .string ⟨#[]⟩, .slice none 0 0] 31)
  have HB1 := Lib.hid hb1
  clear HA hW hb1
  cases hm : Hp.may M.length v with
  | false =>
    have e : Hp.tellT (M.map (·.1)) v = none := by rw [Hp.tellT, List.length_map, hm]; rfl
    rw [e]
    rw [hm] at HM
    clear e hm
    unfold Hp.V.val at *
    go_enter Try.func25, Try.ntmps25
    go_wp2_with fail
    with_reducible refine (HM.out _ HB1.out).mono ?_
    rintro e w3 ⟨rfl, hb3⟩
    have hr3 : w3.heap[w.heap.size + 1]? = some (.cells #[.int .i64 0, .int .i64 0, .string ⟨#[]⟩, .slice none 0 0] 31 (0, 0)) := (hb3.block _ (by simp)).trans (heap_new (by simp))
    obtain ⟨t0, t1, t2, t3, y0, y1, y2, y3⟩ := Blk4.of hr3
    have HR3 := Lib.hid hr3
    have HB3 := Lib.hid (HB1.out.trans (hb3.mono (by simp; omega)))
    clear hr3 hb3
    go_wp2_with fail
    refine bodyPost_ret (res2 rfl _ _ (w.heap.size + 1) 31 _ (0, 0) rfl (four_set _ _ _ _ _ _ _ _ _ _ _ HR3.out) datumD datumSize) rfl ?_
    exact dtout_no (below_four HB3.out (by omega) _ _ _ _)
  | true =>
    have HMM := Lib.hid hm
    rw [hm] at HM
    clear hm
    have HT : Hid (∀ (tb : Nat) (w1 : World), w.heap.size ≤ tb → HpAt w1 83 h O (.slice a M.length c) M → TlAt w1 tb h 200 → Calls Try.prog 41 #[.pointer (some ⟨tb, 0, none⟩), v.val, .int .i64 0] w1 (TOut (Hp.tellF (M.map (·.1)) 200 v 0 200) tb h w1)) := fun tb w1 htb h1 h2 =>
      tell_n HW.out (fun e => by have := HOL.out tb e; omega) 200 v 0 200 w1 (Nat.le_refl _) (by omega) (by omega) HMM.out h1 h2
    unfold Hp.V.val at *
    go_enter Try.func25, Try.ntmps25
    go_wp2_with fail
    with_reducible refine (HM.out _ HB1.out).mono ?_
    rintro e w3 ⟨rfl, hb3⟩
    have hr3 : w3.heap[w.heap.size + 1]? = some (.cells #[.int .i64 0, .int .i64 0, .string ⟨#[]⟩, .slice none 0 0] 31 (0, 0)) := (hb3.block _ (by simp)).trans (heap_new (by simp))
    have hx3 : w3.heap[w.heap.size]? = some (.cells #[.int .i64 v.kind, .int .i64 v.int, .string v.text] 64 (0, 0)) := (hb3.block _ (by simp; omega)).trans ((heap_alloc_old _ _ (by simp)).trans (heap_new rfl))
    have hz3 : w.heap.size + 1 < w3.heap.size := by have := hb3.size; simp at this; omega
    have hz3' : w.heap.size < w3.heap.size := by omega
    have q0 := cell_of_row w3 _ 0 _ _ _ hx3
    have q1 := cell_of_row w3 _ 1 _ _ _ hx3
    have q2 := cell_of_row w3 _ 2 _ _ _ hx3
    simp only [List.getElem?_toArray, List.getElem?_cons_zero, List.getElem?_cons_succ] at q0 q1 q2
    have HR3 := Lib.hid hr3
    have HB3 := Lib.hid (HB1.out.trans (hb3.mono (by simp; omega)))
    have HHA3 := Lib.hid (HHA.out.below HB3.out (Nat.le_refl _))
    clear hr3 hb3 hx3
    go_wp2_with fail
    with_reducible refine (HT.out w3.heap.size _ (by omega) (HHA3.out.below ((Below.refl w3.heap.size w3).alloc (Nat.le_refl _) _) (Nat.le_refl _)) (tl_new w3 h)).mono ?_
    rintro e w5 ⟨d, ad, cd, ok, left, rfl, hd, htl, hs, h4, h5⟩
    have hr5 : w5.heap[w.heap.size + 1]? = some (.cells #[.int .i64 0, .int .i64 0, .string ⟨#[]⟩, .slice none 0 0] 31 (0, 0)) := (hs.block _ (by simp; omega) (by omega)).trans ((heap_alloc_old _ _ hz3).trans HR3.out)
    obtain ⟨t0, t1, t2, t3, y0, y1, y2, y3⟩ := Blk4.of hr5
    have HR5 := Lib.hid hr5
    have HE := Lib.hid (fun x y z u => tell_end (h := h) (by rw [List.length_map]; exact HMM.out) HB3.out hz3 hd hs h4 h5 x y z u)
    clear hr5 hd htl hs h4 h5
    go_wp2_with fail
    refine bodyPost_ret (res2 rfl _ _ (w.heap.size + 1) 31 _ (0, 0) rfl (four_set _ _ _ _ _ _ _ _ _ _ _ HR5.out) datumD datumSize) rfl ?_
    exact HE.out _ _ _ _
end Go.Proofs.Ytalfnaielhbocaa
namespace Go.Proofs.Ytalfnaielhbocaa
open Go.RowKit
set_option maxRecDepth 100000
set_option linter.unusedVariables false
set_option linter.unusedSimpArgs false
set_option linter.unnecessarySimpa false
structure LwO (w0 w : World) (h : Nat) (O : Nat → Prop) (T : List Hp.Th) (L : List (Nat × Obj)) : Prop where
  st : HSt w 83 h O T
  lo : ∀ b, O b → w0.heap.size ≤ b
  below : Below w0.heap.size w0 w
  loc : ∀ x ∈ L, w.heap[x.1]? = some x.2 ∧ ¬ O x.1 ∧ w0.heap.size ≤ x.1
  apart : L.Pairwise fun a b => a.1 ≠ b.1
def Lw (w0 w : World) (h : Nat) (T : List Hp.Th) (L : List (Nat × Obj)) : Prop := ∃ O, LwO w0 w h O T L
section
variable {w0 w : World} {h : Nat} {T : List Hp.Th} {L : List (Nat × Obj)}
theorem Lw.bel {w' : World} (H : Lw w0 w h T L) (hb : Below w.heap.size w w') : Lw w0 w' h T L := by
  obtain ⟨O, H⟩ := H
  exact ⟨O, H.st.below hb (Nat.le_refl _), H.lo, H.below.trans (hb.mono H.below.size), fun x hx => ⟨(hb.block _ (Array.getElem?_eq_some_iff.1 (H.loc x hx).1).1).trans (H.loc x hx).1, (H.loc x hx).2⟩, H.apart⟩
theorem Lw.tail {x : Nat × Obj} (H : Lw w0 w h T (x :: L)) : Lw w0 w h T L := by
  obtain ⟨O, H⟩ := H
  exact ⟨O, H.st, H.lo, H.below, fun y hy => H.loc y (List.mem_cons_of_mem _ hy), (List.pairwise_cons.1 H.apart).2⟩
theorem Lw.set {b : Nat} {cs : Array Value} {t : TypeId} (H : Lw w0 w h T ((b, .cells cs t (0, 0)) :: L)) (i : Nat) (v : Value) : Lw w0 (w.setCell ⟨b, i, none⟩ v) h T ((b, .cells (cs.setIfInBounds i v) t (0, 0)) :: L) := by
  obtain ⟨O, H⟩ := H
  obtain ⟨hb, hO, hlo⟩ := H.loc (b, .cells cs t (0, 0)) (List.mem_cons_self ..)
  have hap := (List.pairwise_cons.1 H.apart).1
  have hsize : (w.setCell ⟨b, i, none⟩ v).heap.size = w.heap.size := by simp [World.setCell]
  have hoth : ∀ k, k ≠ b → (w.setCell ⟨b, i, none⟩ v).heap[k]? = w.heap[k]? := fun k hk => heap_setCell_other _ _ _ _ hk
  refine ⟨O, H.st.keep (by rw [hsize]; exact Nat.le_refl _) fun k hk => hoth k fun e => hO (e ▸ hk), H.lo, H.below.setCell (p := ⟨b, i, none⟩) hlo _, fun x hx => ?_, List.pairwise_cons.2 ⟨hap, (List.pairwise_cons.1 H.apart).2⟩⟩
  rcases List.mem_cons.1 hx with rfl | hx
  · exact ⟨heap_setCell_same _ b i _ _ v hb, hO, hlo⟩
  · exact ⟨(hoth _ (fun e => hap x hx e.symm)).trans (H.loc x (List.mem_cons_of_mem _ hx)).1, (H.loc x (List.mem_cons_of_mem _ hx)).2⟩
theorem Lw.find (H : Lw w0 w h T L) {b : Nat} {o : Obj} (hx : (b, o) ∈ L) : w.heap[b]? = some o ∧ b < w.heap.size ∧ w0.heap.size ≤ b := by
  obtain ⟨O, H⟩ := H
  have := H.loc _ hx
  exact ⟨this.1, (Array.getElem?_eq_some_iff.1 this.1).1, this.2.2⟩
theorem Lw.below (H : Lw w0 w h T L) : Below w0.heap.size w0 w := by
  obtain ⟨O, H⟩ := H
  exact H.below
theorem Lw.cells (H : Lw w0 w h T L) {b : Nat} {cs : Array Value} {t : TypeId} (hx : (b, Obj.cells cs t (0, 0)) ∈ L) (i : Nat) : w.cell? ⟨b, i, none⟩ = cs[i]? := cell_of_row w b i _ _ _ (H.find hx).1
theorem Lw.init {w0 w : World} (hb : Below w0.heap.size w0 w) : Lw w0 (w.alloc (.cells #[.slice none 0 0] 83)) w.heap.size [] [] := by
  refine ⟨fun b => b = w.heap.size, ⟨.slice none 0 0, [], ⟨heap_new rfl, World.ownsRow_nil _ _ _ _, by simp, by simp [Value.ownBlock], by simp, by simp, by simp, ⟨rfl, by simp [Value.ownBlock], by simp⟩, fun b e => by simp [e]⟩, rfl⟩, fun b e => by have := hb.size; omega, hb.alloc hb.size _, by simp, List.Pairwise.nil⟩
def LwPost (w0 : World) (h : Nat) (T : List Hp.Th) (L : List (Nat × Obj)) (r : Hp.V) (er : Int) (W : World) (e : Ending) (w' : World) : Prop :=
  e = .returned (.tuple #[.agg #[.int .i64 r.kind, .int .i64 r.int, .string r.text], .int .i64 er]) ∧ Lw w0 w' h T L ∧ W.heap.size ≤ w'.heap.size
theorem Lw.post {O : Nat → Prop} {T' : List Hp.Th} {r : Hp.V} {er : Int} {e : Ending} {w' : World} (H : LwO w0 w h O T L) (hp : DoPost 83 h O r er T' w e w') : LwPost w0 h T' L r er w e w' := by
  obtain ⟨O', he, h1, h2⟩ := hp
  refine ⟨he, ⟨O', h1, fun b hb => ?_, H.below.trans (h2.below H.lo H.below.size), fun x hx => ?_, H.apart⟩, h2.size⟩
  · rcases h2.own b hb with e | e
    · exact H.lo b e
    · exact Nat.le_trans H.below.size e
  · obtain ⟨g1, g2, g3⟩ := H.loc x hx
    have hlt := (Array.getElem?_eq_some_iff.1 g1).1
    exact ⟨(h2.block _ hlt g2).trans g1, fun e => by
      rcases h2.own _ e with e | e
      · exact g2 e
      · omega, g3⟩
theorem Lw.call (H : Lw w0 w h T L) (f : Nat) (args : Array Value) (l : List Hp.V) (cs : Array Value) (hcs : cs = (Hp.flatV l).toArray) (T' : List Hp.Th) (r : Hp.V) (er : Int) {s n : Nat} (hs : (s, Obj.cells cs 64 (0, 0)) ∈ L) (hn : l.length = n)
    (hU : ∀ (O : Nat → Prop), HSt w 83 h O T → VSl w (.slice (some ⟨s, 0, none⟩) n n) l → Hp.free O (.slice (some ⟨s, 0, none⟩) n n) → Calls Try.prog f args w (DoPost 83 h O r er T' w)) :
    Calls Try.prog f args w (LwPost w0 h T' L r er w) := by
  subst hn
  obtain ⟨O, H⟩ := H
  obtain ⟨h1, h2, h3⟩ := H.loc _ hs
  subst hcs
  refine (hU O H.st ⟨_, _, rfl, .inr ⟨_, rfl, fun j u hu => ?_⟩⟩ fun b e => ?_).mono fun e w' hp => Lw.post H hp
  · rw [Addr.add_mid, Nat.zero_add, cell_of_row _ _ _ _ _ _ h1]
    simpa using hu
  · simp [Value.ownBlock] at e
    rw [← e]
    exact h2
end
theorem new_any (w : World) : Calls Try.prog 21 #[] w fun e w' => e = .returned (.pointer (some ⟨w.heap.size, 0, none⟩)) ∧ w' = w.alloc (.cells #[.slice none 0 0] 83) := by
  go_enter Try.func21, Try.ntmps21
  go_wp2_with fail
  go_ret
  exact ⟨rfl, rfl⟩
end Go.Proofs.Ytalfnaielhbocaa
namespace Go.Proofs.Ytalfnaielhbocaa
open Go.RowKit
set_option maxRecDepth 100000
set_option linter.unusedVariables false
set_option linter.unusedSimpArgs false
set_option linter.unnecessarySimpa false
namespace Dt
def lastKind (l : List Dt) : Int := match l.getLast? with | some x => x.kind | none => 0
def formB (k i : Int) (t : ByteArray) (l : List Dt) : Bool :=
  if k = 0 then decide (t = ⟨#[]⟩) && decide (l = []) && (decide (i = 0) || decide (i = 1))
  else if k = 1 then decide (t = ⟨#[]⟩) && decide (l = []) && isN i
  else if k = 2 then decide (t = ⟨#[]⟩) && decide (l = []) && (decide (0 ≤ i) && decide (i ≤ 255))
  else if k = 3 then decide (i = 0) && decide (l = []) && decide (t.size ≤ 4096)
  else if k = 4 then decide (i = 0) && decide (l = []) && Nm.nameB t
  else if k = 5 ∨ k = 7 then decide (i = 0) && decide (t = ⟨#[]⟩)
  else if k = 6 then decide (i = 0) && decide (t = ⟨#[]⟩) && (decide (2 ≤ l.length) && decide (lastKind l ≠ 5) && decide (lastKind l ≠ 6))
  else false
end Dt
theorem ditems_any (k i : Int) (t : ByteArray) (a : Option Addr) (n c : Nat) (w : World) : Calls Try.prog 89 #[.agg #[.int .i64 k, .int .i64 i, .string t, .slice a n c]] w fun e w' => e = .returned (.bool (decide (5 ≤ k) && decide (k ≤ 7))) ∧ Below w.heap.size w w' := by
  cases h1 : decide (5 ≤ k) <;> cases h2 : decide (k ≤ 7)
  all_goals
    go_enter Try.func89, Try.ntmps89
    go_wp2_with fail
    go_ret
    exact ⟨rfl, (Below.refl _ _).alloc (Nat.le_refl _) _⟩
theorem ritems_any (k i : Int) (t : ByteArray) (a : Option Addr) (n c : Nat) (w : World) : Calls Try.prog 75 #[.agg #[.int .i64 k, .int .i64 i, .string t, .slice a n c]] w fun e w' => e = .returned (.bool (decide (5 ≤ k) && decide (k ≤ 7))) ∧ Below w.heap.size w w' := by
  have e : (decide (5 ≤ k) && decide (k ≤ 7)) = ((k == 5) || (k == 6) || (k == 7)) := by rw [Bool.eq_iff_iff]; simp; omega
  rw [e]
  cases h1 : (k == 5) <;> cases h2 : (k == 6) <;> cases h3 : (k == 7)
  all_goals
    go_enter Try.func75, Try.ntmps75
    go_wp2_with fail
    go_ret
    exact ⟨rfl, (Below.refl _ _).alloc (Nat.le_refl _) _⟩
def FormPost (b : Bool) (w : World) (e : Ending) (w' : World) : Prop := e = .returned (.bool b) ∧ Below w.heap.size w w'
theorem text_facts {t : ByteArray} (ht : ¬ t = ⟨#[]⟩) : t.toList.isEmpty = false ∧ ¬ t.toList = [] ∧ decide (t = ⟨#[]⟩) = false :=
  ⟨by rw [List.isEmpty_eq_false_iff]; exact fun e => ht (text_nil.1 e), fun e => ht (text_nil.1 e), decide_eq_false ht⟩
theorem list_facts {l : List Dt} (hl : ¬ l = []) : 0 < l.length ∧ ¬ l.length = 0 ∧ decide (l = []) = false := ⟨List.length_pos_iff.2 hl, fun e => hl (List.eq_nil_of_length_eq_zero e), decide_eq_false hl⟩
set_option maxHeartbeats 4000000 in
theorem dform0 (i : Int) (t : ByteArray) (a : Option Addr) (l : List Dt) (c : Nat) (w : World) : Calls Try.prog 90 #[.agg #[.int .i64 0, .int .i64 i, .string t, .slice a l.length c]] w (FormPost (Dt.formB 0 i t l) w) := by
  have ha := i64_and1 i
  have e1 : (decide (i = 0) || decide (i = 1)) = !(i != i % 2) := by rw [Bool.eq_iff_iff]; simp; omega
  have HR : Hid (Dt.formB 0 i t l = (decide (t = ⟨#[]⟩) && decide (l = []) && !(i != i % 2))) := by
    unfold Hid
    rw [← e1]
    simp [Dt.formB]
  clear e1
  have HI : Hid (∀ w1, Calls Try.prog 89 #[.agg #[.int .i64 0, .int .i64 i, .string t, .slice a l.length c]] w1 fun e w' => e = .returned (.bool false) ∧ Below w1.heap.size w1 w') := fun w1 => ditems_any 0 i t a l.length c w1
  unfold FormPost
  rw [HR.out]
  generalize hb : (decide (t = ⟨#[]⟩) && decide (l = []) && !(i != i % 2)) = b
  cases h1 : (i != i % 2)
  · by_cases ht : t = ⟨#[]⟩
    · subst ht
      by_cases hl : l = []
      · subst hl
        have HB : Hid (true = b) := by rw [← hb, h1]; rfl
        clear hb
        go_enter Try.func90, Try.ntmps90
        go_wp2_with fail
        go_ret
        exact ⟨by rw [← HB.out]; rfl, (Below.refl _ _).alloc (Nat.le_refl _) _⟩
      · obtain ⟨k1, k2, k3⟩ := list_facts hl
        have HB : Hid (false = b) := by rw [← hb, k3]; rfl
        clear hb k3 hl
        go_enter Try.func90, Try.ntmps90
        go_wp2_with fail
        with_reducible refine (HI.out _).mono ?_
        rintro e w2 ⟨rfl, hb2⟩
        have HB2 := Lib.hid hb2
        clear hb2
        go_wp2_with fail
        go_ret
        exact ⟨by rw [← HB.out]; rfl, ((Below.refl _ _).alloc (Nat.le_refl _) _).trans (HB2.out.mono (by simp))⟩
    · obtain ⟨k1, k2, k3⟩ := text_facts ht
      have HB : Hid (false = b) := by rw [← hb, k3]; rfl
      clear hb k3 ht
      go_enter Try.func90, Try.ntmps90
      go_wp2_with fail
      go_ret
      exact ⟨by rw [← HB.out]; rfl, (Below.refl _ _).alloc (Nat.le_refl _) _⟩
  · have HB : Hid (false = b) := Lib.hid (by rw [← hb, h1]; simp)
    clear hb
    go_enter Try.func90, Try.ntmps90
    go_wp2_with fail
    go_ret
    exact ⟨by rw [← HB.out]; rfl, (Below.refl _ _).alloc (Nat.le_refl _) _⟩
set_option maxHeartbeats 4000000 in
theorem dform2 (i : Int) (t : ByteArray) (a : Option Addr) (l : List Dt) (c : Nat) (w : World) : Calls Try.prog 90 #[.agg #[.int .i64 2, .int .i64 i, .string t, .slice a l.length c]] w (FormPost (Dt.formB 2 i t l) w) := by
  have ha := i64_and255 i
  have e1 : (decide (0 ≤ i) && decide (i ≤ 255)) = !(i != i % 256) := by rw [Bool.eq_iff_iff]; simp; omega
  have HR : Hid (Dt.formB 2 i t l = (decide (t = ⟨#[]⟩) && decide (l = []) && !(i != i % 256))) := by
    unfold Hid
    rw [← e1]
    simp [Dt.formB]
  clear e1
  have HI : Hid (∀ w1, Calls Try.prog 89 #[.agg #[.int .i64 2, .int .i64 i, .string t, .slice a l.length c]] w1 fun e w' => e = .returned (.bool false) ∧ Below w1.heap.size w1 w') := fun w1 => ditems_any 2 i t a l.length c w1
  unfold FormPost
  rw [HR.out]
  generalize hb : (decide (t = ⟨#[]⟩) && decide (l = []) && !(i != i % 256)) = b
  cases h1 : (i != i % 256)
  · by_cases ht : t = ⟨#[]⟩
    · subst ht
      by_cases hl : l = []
      · subst hl
        have HB : Hid (true = b) := by rw [← hb, h1]; rfl
        clear hb
        go_enter Try.func90, Try.ntmps90
        go_wp2_with fail
        go_ret
        exact ⟨by rw [← HB.out]; rfl, (Below.refl _ _).alloc (Nat.le_refl _) _⟩
      · obtain ⟨k1, k2, k3⟩ := list_facts hl
        have HB : Hid (false = b) := by rw [← hb, k3]; rfl
        clear hb k3 hl
        go_enter Try.func90, Try.ntmps90
        go_wp2_with fail
        with_reducible refine (HI.out _).mono ?_
        rintro e w2 ⟨rfl, hb2⟩
        have HB2 := Lib.hid hb2
        clear hb2
        go_wp2_with fail
        go_ret
        exact ⟨by rw [← HB.out]; rfl, ((Below.refl _ _).alloc (Nat.le_refl _) _).trans (HB2.out.mono (by simp))⟩
    · obtain ⟨k1, k2, k3⟩ := text_facts ht
      have HB : Hid (false = b) := by rw [← hb, k3]; rfl
      clear hb k3 ht
      go_enter Try.func90, Try.ntmps90
      go_wp2_with fail
      go_ret
      exact ⟨by rw [← HB.out]; rfl, (Below.refl _ _).alloc (Nat.le_refl _) _⟩
  · have HB : Hid (false = b) := Lib.hid (by rw [← hb, h1]; simp)
    clear hb
    go_enter Try.func90, Try.ntmps90
    go_wp2_with fail
    go_ret
    exact ⟨by rw [← HB.out]; rfl, (Below.refl _ _).alloc (Nat.le_refl _) _⟩
set_option maxHeartbeats 4000000 in
theorem dform1 (i : Int) (t : ByteArray) (a : Option Addr) (l : List Dt) (c : Nat) (w : World) : Calls Try.prog 90 #[.agg #[.int .i64 1, .int .i64 i, .string t, .slice a l.length c]] w (FormPost (Dt.formB 1 i t l) w) := by
  have e1 : isN i = !(i != min (max i (-1152921504606846976)) 1152921504606846975) := by rw [Bool.eq_iff_iff, isN_iff]; simp; omega
  have HR : Hid (Dt.formB 1 i t l = (decide (t = ⟨#[]⟩) && decide (l = []) && !(i != min (max i (-1152921504606846976)) 1152921504606846975))) := by
    unfold Hid
    rw [← e1]
    simp [Dt.formB]
  clear e1
  have HI : Hid (∀ w1, Calls Try.prog 89 #[.agg #[.int .i64 1, .int .i64 i, .string t, .slice a l.length c]] w1 fun e w' => e = .returned (.bool false) ∧ Below w1.heap.size w1 w') := fun w1 => ditems_any 1 i t a l.length c w1
  unfold FormPost
  rw [HR.out]
  generalize hb : (decide (t = ⟨#[]⟩) && decide (l = []) && !(i != min (max i (-1152921504606846976)) 1152921504606846975)) = b
  cases h1 : (i != min (max i (-1152921504606846976)) 1152921504606846975)
  · by_cases ht : t = ⟨#[]⟩
    · subst ht
      by_cases hl : l = []
      · subst hl
        have HB : Hid (true = b) := by rw [← hb, h1]; rfl
        clear hb
        go_enter Try.func90, Try.ntmps90
        go_wp2_with fail
        go_ret
        exact ⟨by rw [← HB.out]; rfl, (Below.refl _ _).alloc (Nat.le_refl _) _⟩
      · obtain ⟨k1, k2, k3⟩ := list_facts hl
        have HB : Hid (false = b) := by rw [← hb, k3]; rfl
        clear hb k3 hl
        go_enter Try.func90, Try.ntmps90
        go_wp2_with fail
        with_reducible refine (HI.out _).mono ?_
        rintro e w2 ⟨rfl, hb2⟩
        have HB2 := Lib.hid hb2
        clear hb2
        go_wp2_with fail
        go_ret
        exact ⟨by rw [← HB.out]; rfl, ((Below.refl _ _).alloc (Nat.le_refl _) _).trans (HB2.out.mono (by simp))⟩
    · obtain ⟨k1, k2, k3⟩ := text_facts ht
      have HB : Hid (false = b) := by rw [← hb, k3]; rfl
      clear hb k3 ht
      go_enter Try.func90, Try.ntmps90
      go_wp2_with fail
      go_ret
      exact ⟨by rw [← HB.out]; rfl, (Below.refl _ _).alloc (Nat.le_refl _) _⟩
  · have HB : Hid (false = b) := Lib.hid (by rw [← hb, h1]; simp)
    clear hb
    go_enter Try.func90, Try.ntmps90
    go_wp2_with fail
    go_ret
    exact ⟨by rw [← HB.out]; rfl, (Below.refl _ _).alloc (Nat.le_refl _) _⟩
end Go.Proofs.Ytalfnaielhbocaa
namespace Go.Proofs.Ytalfnaielhbocaa
open Go.RowKit
set_option maxRecDepth 100000
set_option linter.unusedVariables false
set_option linter.unusedSimpArgs false
set_option linter.unnecessarySimpa false
set_option maxHeartbeats 4000000 in
theorem dform4 (i : Int) (t : ByteArray) (ht : t.size ≤ maxLen) (a : Option Addr) (l : List Dt) (c : Nat) (w : World) : Calls Try.prog 90 #[.agg #[.int .i64 4, .int .i64 i, .string t, .slice a l.length c]] w (FormPost (Dt.formB 4 i t l) w) := by
  have HR : Hid (Dt.formB 4 i t l = (decide (i = 0) && decide (l = []) && Nm.nameB t)) := by
    unfold Hid
    simp [Dt.formB]
  have HI : Hid (∀ w1, Calls Try.prog 89 #[.agg #[.int .i64 4, .int .i64 i, .string t, .slice a l.length c]] w1 fun e w' => e = .returned (.bool false) ∧ Below w1.heap.size w1 w') := fun w1 => ditems_any 4 i t a l.length c w1
  have HN : Hid (∀ w1, Calls Try.prog 59 #[.string t] w1 fun e w' => e = .returned (.bool (Nm.nameB t)) ∧ w1 = w') := fun w1 => dname_any t ht w1
  unfold FormPost
  rw [HR.out]
  generalize hb : (decide (i = 0) && decide (l = []) && Nm.nameB t) = b
  clear ht
  by_cases h1 : i = 0
  · subst h1
    by_cases hl : l = []
    · subst hl
      have HB : Hid (Nm.nameB t = b) := by rw [← hb]; exact Lib.hid rfl
      clear hb
      go_enter Try.func90, Try.ntmps90
      go_wp2_with fail
      with_reducible refine (HN.out _).mono ?_
      rintro e w2 ⟨rfl, rfl⟩
      go_wp2_with fail
      go_ret
      exact ⟨by rw [← HB.out]; rfl, (Below.refl _ _).alloc (Nat.le_refl _) _⟩
    · obtain ⟨k1, k2, k3⟩ := list_facts hl
      have HB : Hid (false = b) := by rw [← hb, k3]; rfl
      clear hb k3 hl
      go_enter Try.func90, Try.ntmps90
      go_wp2_with fail
      with_reducible refine (HI.out _).mono ?_
      rintro e w2 ⟨rfl, hb2⟩
      have HB2 := Lib.hid hb2
      clear hb2
      go_wp2_with fail
      go_ret
      exact ⟨by rw [← HB.out]; rfl, ((Below.refl _ _).alloc (Nat.le_refl _) _).trans (HB2.out.mono (by simp))⟩
  · have k1 : (i != 0) = true := by simp [h1]
    have HB : Hid (false = b) := Lib.hid (by rw [← hb, decide_eq_false h1]; simp)
    clear hb h1
    go_enter Try.func90, Try.ntmps90
    go_wp2_with fail
    go_ret
    exact ⟨by rw [← HB.out]; rfl, (Below.refl _ _).alloc (Nat.le_refl _) _⟩
set_option maxHeartbeats 4000000 in
theorem dform5 (i : Int) (t : ByteArray) (a : Option Addr) (l : List Dt) (c : Nat) (w : World) : Calls Try.prog 90 #[.agg #[.int .i64 5, .int .i64 i, .string t, .slice a l.length c]] w (FormPost (Dt.formB 5 i t l) w) := by
  have HR : Hid (Dt.formB 5 i t l = (decide (i = 0) && decide (t = ⟨#[]⟩))) := by
    unfold Hid
    simp [Dt.formB]
  have HI : Hid (∀ w1, Calls Try.prog 89 #[.agg #[.int .i64 5, .int .i64 i, .string t, .slice a l.length c]] w1 fun e w' => e = .returned (.bool true) ∧ Below w1.heap.size w1 w') := fun w1 => ditems_any 5 i t a l.length c w1
  unfold FormPost
  rw [HR.out]
  generalize hb : (decide (i = 0) && decide (t = ⟨#[]⟩)) = b
  by_cases h1 : i = 0
  · subst h1
    by_cases ht : t = ⟨#[]⟩
    · subst ht
      have HB : Hid (true = b) := by rw [← hb]; exact Lib.hid rfl
      clear hb
      by_cases hl : l = []
      · subst hl
        go_enter Try.func90, Try.ntmps90
        go_wp2_with fail
        go_ret
        exact ⟨by rw [← HB.out]; rfl, (Below.refl _ _).alloc (Nat.le_refl _) _⟩
      · obtain ⟨k1, k2, k3⟩ := list_facts hl
        have hc0 : ∀ w2 : World, Below (w.alloc (.cells #[.int .i64 5, .int .i64 0, .string ⟨#[]⟩, .slice a l.length c] 31)).heap.size (w.alloc (.cells #[.int .i64 5, .int .i64 0, .string ⟨#[]⟩, .slice a l.length c] 31)) w2 → w2.cell? ⟨w.heap.size, 0, none⟩ = some (.int .i64 5) := fun w2 hb => (hb.cell (p := ⟨w.heap.size, 0, none⟩) (by simp)).trans (new4 w _ _ _ _ _).1
        have HC0 := Lib.hid hc0
        clear k3 hl hc0
        go_enter Try.func90, Try.ntmps90
        go_wp2_with fail
        with_reducible refine (HI.out _).mono ?_
        rintro e w2 ⟨rfl, hb2⟩
        have c0 := HC0.out w2 hb2
        have HB2 := Lib.hid hb2
        clear hb2
        go_wp2_with fail
        go_ret
        exact ⟨by rw [← HB.out]; rfl, ((Below.refl _ _).alloc (Nat.le_refl _) _).trans (HB2.out.mono (by simp))⟩
    · obtain ⟨k1, k2, k3⟩ := text_facts ht
      have HB : Hid (false = b) := by rw [← hb, k3]; rfl
      clear hb k3 ht
      go_enter Try.func90, Try.ntmps90
      go_wp2_with fail
      go_ret
      exact ⟨by rw [← HB.out]; rfl, (Below.refl _ _).alloc (Nat.le_refl _) _⟩
  · have k1 : (i != 0) = true := by simp [h1]
    have HB : Hid (false = b) := Lib.hid (by rw [← hb, decide_eq_false h1]; simp)
    clear hb h1
    go_enter Try.func90, Try.ntmps90
    go_wp2_with fail
    go_ret
    exact ⟨by rw [← HB.out]; rfl, (Below.refl _ _).alloc (Nat.le_refl _) _⟩
set_option maxHeartbeats 4000000 in
theorem dform7 (i : Int) (t : ByteArray) (a : Option Addr) (l : List Dt) (c : Nat) (w : World) : Calls Try.prog 90 #[.agg #[.int .i64 7, .int .i64 i, .string t, .slice a l.length c]] w (FormPost (Dt.formB 7 i t l) w) := by
  have HR : Hid (Dt.formB 7 i t l = (decide (i = 0) && decide (t = ⟨#[]⟩))) := by
    unfold Hid
    simp [Dt.formB]
  have HI : Hid (∀ w1, Calls Try.prog 89 #[.agg #[.int .i64 7, .int .i64 i, .string t, .slice a l.length c]] w1 fun e w' => e = .returned (.bool true) ∧ Below w1.heap.size w1 w') := fun w1 => ditems_any 7 i t a l.length c w1
  unfold FormPost
  rw [HR.out]
  generalize hb : (decide (i = 0) && decide (t = ⟨#[]⟩)) = b
  by_cases h1 : i = 0
  · subst h1
    by_cases ht : t = ⟨#[]⟩
    · subst ht
      have HB : Hid (true = b) := by rw [← hb]; exact Lib.hid rfl
      clear hb
      by_cases hl : l = []
      · subst hl
        go_enter Try.func90, Try.ntmps90
        go_wp2_with fail
        go_ret
        exact ⟨by rw [← HB.out]; rfl, (Below.refl _ _).alloc (Nat.le_refl _) _⟩
      · obtain ⟨k1, k2, k3⟩ := list_facts hl
        have hc0 : ∀ w2 : World, Below (w.alloc (.cells #[.int .i64 7, .int .i64 0, .string ⟨#[]⟩, .slice a l.length c] 31)).heap.size (w.alloc (.cells #[.int .i64 7, .int .i64 0, .string ⟨#[]⟩, .slice a l.length c] 31)) w2 → w2.cell? ⟨w.heap.size, 0, none⟩ = some (.int .i64 7) := fun w2 hb => (hb.cell (p := ⟨w.heap.size, 0, none⟩) (by simp)).trans (new4 w _ _ _ _ _).1
        have HC0 := Lib.hid hc0
        clear k3 hl hc0
        go_enter Try.func90, Try.ntmps90
        go_wp2_with fail
        with_reducible refine (HI.out _).mono ?_
        rintro e w2 ⟨rfl, hb2⟩
        have c0 := HC0.out w2 hb2
        have HB2 := Lib.hid hb2
        clear hb2
        go_wp2_with fail
        go_ret
        exact ⟨by rw [← HB.out]; rfl, ((Below.refl _ _).alloc (Nat.le_refl _) _).trans (HB2.out.mono (by simp))⟩
    · obtain ⟨k1, k2, k3⟩ := text_facts ht
      have HB : Hid (false = b) := by rw [← hb, k3]; rfl
      clear hb k3 ht
      go_enter Try.func90, Try.ntmps90
      go_wp2_with fail
      go_ret
      exact ⟨by rw [← HB.out]; rfl, (Below.refl _ _).alloc (Nat.le_refl _) _⟩
  · have k1 : (i != 0) = true := by simp [h1]
    have HB : Hid (false = b) := Lib.hid (by rw [← hb, decide_eq_false h1]; simp)
    clear hb h1
    go_enter Try.func90, Try.ntmps90
    go_wp2_with fail
    go_ret
    exact ⟨by rw [← HB.out]; rfl, (Below.refl _ _).alloc (Nat.le_refl _) _⟩
set_option maxHeartbeats 4000000 in
theorem dformx (k : Int) (hk : k < 0 ∨ 7 < k) (i : Int) (t : ByteArray) (a : Option Addr) (l : List Dt) (c : Nat) (w : World) : Calls Try.prog 90 #[.agg #[.int .i64 k, .int .i64 i, .string t, .slice a l.length c]] w (FormPost (Dt.formB k i t l) w) := by
  have HR : Hid (Dt.formB k i t l = false) := by
    unfold Hid
    have : ¬ k = 0 ∧ ¬ k = 1 ∧ ¬ k = 2 ∧ ¬ k = 3 ∧ ¬ k = 4 ∧ ¬ k = 5 ∧ ¬ k = 7 ∧ ¬ k = 6 := by omega
    simp [Dt.formB, this]
  have HI : Hid (∀ w1, Calls Try.prog 89 #[.agg #[.int .i64 k, .int .i64 i, .string t, .slice a l.length c]] w1 fun e w' => e = .returned (.bool false) ∧ Below w1.heap.size w1 w') := fun w1 => by
    have := ditems_any k i t a l.length c w1
    rw [show (decide (5 ≤ k) && decide (k ≤ 7)) = false by rw [Bool.and_eq_false_iff]; simp; omega] at this
    exact this
  unfold FormPost
  rw [HR.out]
  have j0 : (k == 0) = false := beq_eq_false_iff_ne.2 (by omega)
  have j1 : (k == 1) = false := beq_eq_false_iff_ne.2 (by omega)
  have j2 : (k == 2) = false := beq_eq_false_iff_ne.2 (by omega)
  have j3 : (k == 3) = false := beq_eq_false_iff_ne.2 (by omega)
  have j4 : (k == 4) = false := beq_eq_false_iff_ne.2 (by omega)
  have j6 : (k == 6) = false := beq_eq_false_iff_ne.2 (by omega)
  have hor : decide (0 ≤ k) = false ∨ (decide (0 ≤ k) = true ∧ decide (k < 8) = false) := by
    simp only [decide_eq_true_eq, decide_eq_false_iff_not]
    omega
  clear hk
  by_cases h1 : i = 0
  · subst h1
    by_cases ht : t = ⟨#[]⟩
    · subst ht
      by_cases hl : l = []
      · subst hl
        rcases hor with v1 | ⟨v1, v2⟩
        all_goals
          go_enter Try.func90, Try.ntmps90
          go_wp2_with fail
          go_ret
          exact ⟨rfl, (Below.refl _ _).alloc (Nat.le_refl _) _⟩
      · obtain ⟨k1, k2, k3⟩ := list_facts hl
        clear k3 hl hor
        go_enter Try.func90, Try.ntmps90
        go_wp2_with fail
        with_reducible refine (HI.out _).mono ?_
        rintro e w2 ⟨rfl, hb2⟩
        have HB2 := Lib.hid hb2
        clear hb2
        go_wp2_with fail
        go_ret
        exact ⟨rfl, ((Below.refl _ _).alloc (Nat.le_refl _) _).trans (HB2.out.mono (by simp))⟩
    · obtain ⟨k1, k2, k3⟩ := text_facts ht
      clear k3 ht hor
      go_enter Try.func90, Try.ntmps90
      go_wp2_with fail
      go_ret
      exact ⟨rfl, (Below.refl _ _).alloc (Nat.le_refl _) _⟩
  · have k1 : (i != 0) = true := by simp [h1]
    clear h1 hor
    go_enter Try.func90, Try.ntmps90
    go_wp2_with fail
    go_ret
    exact ⟨rfl, (Below.refl _ _).alloc (Nat.le_refl _) _⟩
end Go.Proofs.Ytalfnaielhbocaa
