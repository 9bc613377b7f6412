/- What a value shows, plainly; the teller in memory. -/
import Derived.Laws.BytesArg
import Derived.Test.YtkplkgdfphbldaaGreatHJaw
import Derived.Test.YtkplkgdfphbldaaGreatHJaa
namespace Go.Proofs.YtkplkgdfphbldaaGreat
open Go.RowKit
open Go.Lib (hid)
set_option linter.unusedVariables false
set_option linter.unusedSimpArgs false
set_option linter.unnecessarySimpa false
set_option maxRecDepth 100000
namespace Dt
mutual
def nodes : Dt → Nat
 | mk _ _ _ l => nodess l + 1
def nodess : List Dt → Nat
 | [] => 0
 | x :: l => nodes x + nodess l
end
theorem nodes_pos (d : Dt) : 0 < d.nodes := by cases d; rw [nodes]; omega
theorem nodes_list (d : Dt) : d.nodes = nodess d.list + 1 := by cases d; rw [nodes]; rfl
theorem nodess_len : ∀ l : List Dt, l.length ≤ nodess l
 | [] => Nat.le_refl _
 | x :: l => by
  have := nodess_len l
  have := nodes_pos x
  rw [nodess, List.length_cons]
  omega
theorem nodess_mem : ∀ (l : List Dt) (x : Dt), x ∈ l → x.nodes ≤ nodess l
 | [], x, h => by simp at h
 | y :: l, x, h => by
  rw [nodess]
  rcases List.mem_cons.1 h with rfl | h
  ·omega
  ·have := nodess_mem l x h
   omega
theorem short_n : ∀ (n : Nat) (d : Dt), d.nodes ≤ n → n ≤ 1000000 → Dt.Short d
 | 0, d, h, _ => by have := nodes_pos d; omega
 | n + 1, d, h, hn => by
  have e := nodes_list d
  obtain ⟨k, i, t, l⟩ := d
  simp only [Dt.list_mk] at e
  refine .mk k i t l (by have := nodess_len l; omega) fun j x hx => ?_
  have := nodess_mem l x (List.mem_of_getElem? hx)
  exact short_n n x (by omega) (by omega)
theorem short_of {d : Dt} (h : d.nodes ≤ 1000000) : Dt.Short d := short_n _ d (Nat.le_refl _) h
end Dt
namespace Hp
def sym (t : ByteArray) : Dt := .mk 4 0 t []
def leafD (v : V) : Dt :=
 if v.kind = 1 then .mk 1 v.int ⟨#[]⟩ [] else if v.kind = 2 then .mk 2 v.int ⟨#[]⟩ [] else if v.kind = 3 then sym v.text else if v.kind = 4 then .mk 5 0 ⟨#[]⟩ []
 else if v.kind = 5 then sym ⟨#[118, 111, 105, 100]⟩ else if v.kind = 6 then sym ⟨#[101, 111, 102]⟩ else if v.kind = 7 then sym ⟨#[117, 110, 115, 101, 116]⟩ else .mk 0 v.int ⟨#[]⟩ []
def textOf (l : List V) : ByteArray := strOfNums (l.map fun v => v.int % 256)
def listF (f : V → Nat → Nat → Option (Dt × Nat)) (deep : Nat) : List V → Nat → Option (List Dt × Nat)
 | [], left => some ([], left)
 | v :: l, left => (f v deep left).bind fun x => (listF f deep l x.2).map fun m => (x.1 :: m.1, m.2)
def thingF (f : V → Nat → Nat → Option (Dt × Nat)) (t : Th) (deep left : Nat) : Option (Dt × Nat) :=
 if t.kind = 3 then some (sym ⟨#[98, 111, 120]⟩, left) else if t.kind = 4 then some (sym ⟨#[112, 114, 111, 99, 101, 100, 117, 114, 101]⟩, left) else if t.kind = 2 then some (.mk 3 0 (textOf t.parts) [], left)
 else if t.kind = 0 then
  match t.parts with
  | a :: b :: _ => (f a (deep + 1) left).bind fun x => (f b deep x.2).map fun y => (mkD [x.1] y.1, y.2)
  | _ => Option.none
 else (listF f (deep + 1) t.parts left).map fun m => (.mk 7 0 ⟨#[]⟩ m.1, m.2)
def tellF (T : List Th) : Nat → V → Nat → Nat → Option (Dt × Nat)
 | 0, _, _, _ => Option.none
 | n + 1, v, deep, left =>
  if left = 0 ∨ 32 < deep then Option.none
  else if v.kind = 8 then (T[v.int.toNat]?).bind fun t => thingF (tellF T n) t deep (left - 1)
  else some (leafD v, left - 1)
def Fits (f : V → Nat → Nat → Option (Dt × Nat)) : Prop := ∀ v deep left x, f v deep left = some x → x.1.nodes + x.2 ≤ left
end Hp
structure Save (tb : Nat) (w w' : World) : Prop where
 os : w'.os = w.os
 tape : w'.tape = w.tape
 output : w'.output = w.output
 size : w.heap.size ≤ w'.heap.size
 block : ∀ b, b < w.heap.size → b ≠ tb → w'.heap[b]? = w.heap[b]?
theorem Save.of {tb : Nat} {w w' : World} (h : Below w.heap.size w w') : Save tb w w' := ⟨h.os, h.tape, h.output, h.size, fun b hb _ => h.block b hb⟩
theorem Save.trans {tb : Nat} {a b c : World} (h : Save tb a b) (k : Save tb b c) : Save tb a c :=
 ⟨k.os.trans h.os, k.tape.trans h.tape, k.output.trans h.output, Nat.le_trans h.size k.size, fun i hi ho => (k.block i (Nat.lt_of_lt_of_le hi h.size) ho).trans (h.block i hi ho)⟩
theorem Save.below {tb N : Nat} {w w' : World} (h : Save tb w w') (hN : N ≤ tb) (hw : N ≤ w.heap.size) : Below N w w' := ⟨h.os, h.tape, h.output, h.size, fun b hb => h.block b (by omega) (by omega)⟩
theorem Save.set {tb i : Nat} {w w' : World} (h : Save tb w w') (v : Value) : Save tb w (w'.setCell ⟨tb, i, none⟩ v) :=
 ⟨h.os, h.tape, h.output, by simpa [World.setCell] using h.size, fun b hb ho => (heap_setCell_other _ _ _ _ ho).trans (h.block b hb ho)⟩
theorem DtAt.save {w w' : World} {S : Nat → Prop} {v : Value} {d : Dt} {tb : Nat} (H : DtAt w S v d) (hs : Save tb w w') (hS : ¬ S tb) : DtAt w' S v d := H.same (fun _ h _ => h) hs.size fun b hb hlt => hs.block b hlt fun e => hS (e ▸ hb)
theorem Cell4.save {g tb : Nat} {a b c d : Value} {w w' : World} (h : Cell4 g a b c d w) (hs : Save tb w w') (hg : g < w.heap.size) (hne : g ≠ tb) : Cell4 g a b c d w' := h.same (hs.block g hg hne)
theorem new_cell1 {w : World} {x : Value} {t : TypeId} {s : Nat} (hs : w.heap.size = s) : ∀ (j : Nat) (u : Value), [x][j]? = some u → (w.alloc (.cells #[x] t)).cell? ((⟨s, 0, none⟩ : Addr).add j) = some u := by
 intro j u hu
 subst hs
 rw [Addr.add_mid, Nat.zero_add, cell_of_row _ _ _ _ _ _ (heap_alloc_new w _)]
 simpa using hu
namespace Hp
theorem may_kinds {n : Nat} {v : V} (h : may n v = true) : (v.kind = 1 ∨ v.kind = 2 ∨ v.kind = 4 ∨ v.kind = 0) ∨ (v.kind = 3 ∨ v.kind = 5 ∨ v.kind = 6 ∨ v.kind = 7) ∨ v.kind = 8 := by
 unfold may at h
 by_cases h3 : v.kind = 3
 ·exact .inr (.inl (.inl h3))
 ·rw [if_neg h3] at h
  by_cases h0 : v.kind = 0
  ·exact .inl (by omega)
  by_cases h1 : v.kind = 1
  ·exact .inl (by omega)
  by_cases h2 : v.kind = 2
  ·exact .inl (by omega)
  by_cases h4 : v.kind = 4 ∨ v.kind = 5 ∨ v.kind = 6 ∨ v.kind = 7
  ·rcases h4 with h | h | h | h
   ·exact .inl (by omega)
   ·exact .inr (.inl (by omega))
   ·exact .inr (.inl (by omega))
   ·exact .inr (.inl (by omega))
  by_cases h8 : v.kind = 8
  ·exact .inr (.inr h8)
  ·simp [h0, h1, h2, h4, h8] at h
end Hp
def Hp.tellT (T : List Hp.Th) (v : Hp.V) : Option Dt := if Hp.may T.length v = true then (Hp.tellF T 200 v 0 200).map (·.1) else Option.none
def DtOut (r : Option Dt) (w : World) (e : Ending) (w' : World) : Prop :=
 ∃ (d : Dt) (a : Option Addr) (c : Nat), e = .returned (.tuple #[.agg #[.int .i64 d.kind, .int .i64 d.int, .string d.text, .slice a d.list.length c], .bool r.isSome]) ∧ DtAt w' (fun b => w.heap.size ≤ b) (.agg #[.int .i64 d.kind, .int .i64 d.int, .string d.text, .slice a d.list.length c]) d ∧ Below w.heap.size w w' ∧ d = r.getD (.mk 0 0 ⟨#[]⟩ [])
theorem dtout_no {w w' : World} (h : Below w.heap.size w w') : DtOut none w (.returned (.tuple #[.agg #[.int .i64 0, .int .i64 0, .string ⟨#[]⟩, .slice none 0 0], .bool false])) w' := ⟨.mk 0 0 ⟨#[]⟩ [], none, 0, rfl, .nil _ _ _, h, rfl⟩
namespace Dt
def lastKind (l : List Dt) : Int := match l.getLast? with | some x => x.kind | none => 0
def formB (k i : Int) (t : ByteArray) (l : List Dt) : Bool :=
 if k = 0 then decide (t = ⟨#[]⟩) && decide (l = []) && (decide (i = 0) || decide (i = 1))
 else if k = 1 then decide (t = ⟨#[]⟩) && decide (l = []) && isN i
 else if k = 2 then decide (t = ⟨#[]⟩) && decide (l = []) && (decide (0 ≤ i) && decide (i ≤ 255))
 else if k = 3 then decide (i = 0) && decide (l = []) && decide (t.size ≤ 4096)
 else if k = 4 then decide (i = 0) && decide (l = []) && Nm.nameB t
 else if k = 5 ∨ k = 7 then decide (i = 0) && decide (t = ⟨#[]⟩)
 else if k = 6 then decide (i = 0) && decide (t = ⟨#[]⟩) && (decide (2 ≤ l.length) && decide (lastKind l ≠ 5) && decide (lastKind l ≠ 6))
 else false
end Dt
theorem ditems_any (k i : Int) (t : ByteArray) (a : Option Addr) (n c : Nat) (w : World) : Calls Tryz.prog 127 #[.agg #[.int .i64 k, .int .i64 i, .string t, .slice a n c]] w fun e w' => e = .returned (.bool (decide (5 ≤ k) && decide (k ≤ 7))) ∧ Below w.heap.size w w' := by
 cases h1 : decide (5 ≤ k) <;> cases h2 : decide (k ≤ 7)
 all_goals
  go_enter Tryz.func127, Tryz.ntmps127
  go_wp2_with fail
  go_ret
  exact ⟨rfl, (Below.refl _ _).alloc (Nat.le_refl _) _⟩
theorem ritems_any (k i : Int) (t : ByteArray) (a : Option Addr) (n c : Nat) (w : World) : Calls Tryz.prog 108 #[.agg #[.int .i64 k, .int .i64 i, .string t, .slice a n c]] w fun e w' => e = .returned (.bool (decide (5 ≤ k) && decide (k ≤ 7))) ∧ Below w.heap.size w w' := by
 have e : (decide (5 ≤ k) && decide (k ≤ 7)) = ((k == 5) || (k == 6) || (k == 7)) := by rw [Bool.eq_iff_iff]; simp; omega
 rw [e]
 cases h1 : (k == 5) <;> cases h2 : (k == 6) <;> cases h3 : (k == 7)
 all_goals
  go_enter Tryz.func108, Tryz.ntmps108
  go_wp2_with fail
  go_ret
  exact ⟨rfl, (Below.refl _ _).alloc (Nat.le_refl _) _⟩
def FormPost (b : Bool) (w : World) (e : Ending) (w' : World) : Prop := e = .returned (.bool b) ∧ Below w.heap.size w w'
theorem text_facts {t : ByteArray} (ht : ¬ t = ⟨#[]⟩) : t.toList.isEmpty = false ∧ ¬ t.toList = [] ∧ decide (t = ⟨#[]⟩) = false :=
 ⟨by rw [List.isEmpty_eq_false_iff]; exact fun e => ht (text_nil.1 e), fun e => ht (text_nil.1 e), decide_eq_false ht⟩
theorem list_facts {l : List Dt} (hl : ¬ l = []) : 0 < l.length ∧ ¬ l.length = 0 ∧ decide (l = []) = false := ⟨List.length_pos_iff.2 hl, fun e => hl (List.eq_nil_of_length_eq_zero e), decide_eq_false hl⟩
set_option maxHeartbeats 4000000 in
theorem dform0 (i : Int) (t : ByteArray) (a : Option Addr) (l : List Dt) (c : Nat) (w : World) : Calls Tryz.prog 128 #[.agg #[.int .i64 0, .int .i64 i, .string t, .slice a l.length c]] w (FormPost (Dt.formB 0 i t l) w) := by
 have ha := i64_and1 i
 have e1 : (decide (i = 0) || decide (i = 1)) = !(i != i % 2) := by rw [Bool.eq_iff_iff]; simp; omega
 have HR : Hid (Dt.formB 0 i t l = (decide (t = ⟨#[]⟩) && decide (l = []) && !(i != i % 2))) := by
  unfold Hid
  rw [← e1]
  simp [Dt.formB]
 clear e1
 have HI : Hid (∀ w1, Calls Tryz.prog 127 #[.agg #[.int .i64 0, .int .i64 i, .string t, .slice a l.length c]] w1 fun e w' => e = .returned (.bool false) ∧ Below w1.heap.size w1 w') := fun w1 => ditems_any 0 i t a l.length c w1
 unfold FormPost
 rw [HR.out]
 generalize hb : (decide (t = ⟨#[]⟩) && decide (l = []) && !(i != i % 2)) = b
 cases h1 : (i != i % 2)
 ·by_cases ht : t = ⟨#[]⟩
  ·subst ht
   by_cases hl : l = []
   ·subst hl
    have HB : Hid (true = b) := by rw [← hb, h1]; rfl
    clear hb
    go_enter Tryz.func128, Tryz.ntmps128
    go_wp2_with fail
    go_ret
    exact ⟨by rw [← HB.out]; rfl, (Below.refl _ _).alloc (Nat.le_refl _) _⟩
   ·obtain ⟨k1, k2, k3⟩ := list_facts hl
    have HB : Hid (false = b) := by rw [← hb, k3]; rfl
    clear hb k3 hl
    go_enter Tryz.func128, Tryz.ntmps128
    go_wp2_with fail
    with_reducible refine (HI.out _).mono ?_
    rintro e w2 ⟨rfl, hb2⟩
    have HB2 := hid hb2
    clear hb2
    go_wp2_with fail
    go_ret
    exact ⟨by rw [← HB.out]; rfl, ((Below.refl _ _).alloc (Nat.le_refl _) _).trans (HB2.out.mono (by simp))⟩
  ·obtain ⟨k1, k2, k3⟩ := text_facts ht
   have HB : Hid (false = b) := by rw [← hb, k3]; rfl
   clear hb k3 ht
   go_enter Tryz.func128, Tryz.ntmps128
   go_wp2_with fail
   go_ret
   exact ⟨by rw [← HB.out]; rfl, (Below.refl _ _).alloc (Nat.le_refl _) _⟩
 ·have HB : Hid (false = b) := hid (by rw [← hb, h1]; simp)
  clear hb
  go_enter Tryz.func128, Tryz.ntmps128
  go_wp2_with fail
  go_ret
  exact ⟨by rw [← HB.out]; rfl, (Below.refl _ _).alloc (Nat.le_refl _) _⟩
set_option maxHeartbeats 4000000 in
theorem dform2 (i : Int) (t : ByteArray) (a : Option Addr) (l : List Dt) (c : Nat) (w : World) : Calls Tryz.prog 128 #[.agg #[.int .i64 2, .int .i64 i, .string t, .slice a l.length c]] w (FormPost (Dt.formB 2 i t l) w) := by
 have ha := i64_and255 i
 have e1 : (decide (0 ≤ i) && decide (i ≤ 255)) = !(i != i % 256) := by rw [Bool.eq_iff_iff]; simp; omega
 have HR : Hid (Dt.formB 2 i t l = (decide (t = ⟨#[]⟩) && decide (l = []) && !(i != i % 256))) := by
  unfold Hid
  rw [← e1]
  simp [Dt.formB]
 clear e1
 have HI : Hid (∀ w1, Calls Tryz.prog 127 #[.agg #[.int .i64 2, .int .i64 i, .string t, .slice a l.length c]] w1 fun e w' => e = .returned (.bool false) ∧ Below w1.heap.size w1 w') := fun w1 => ditems_any 2 i t a l.length c w1
 unfold FormPost
 rw [HR.out]
 generalize hb : (decide (t = ⟨#[]⟩) && decide (l = []) && !(i != i % 256)) = b
 cases h1 : (i != i % 256)
 ·by_cases ht : t = ⟨#[]⟩
  ·subst ht
   by_cases hl : l = []
   ·subst hl
    have HB : Hid (true = b) := by rw [← hb, h1]; rfl
    clear hb
    go_enter Tryz.func128, Tryz.ntmps128
    go_wp2_with fail
    go_ret
    exact ⟨by rw [← HB.out]; rfl, (Below.refl _ _).alloc (Nat.le_refl _) _⟩
   ·obtain ⟨k1, k2, k3⟩ := list_facts hl
    have HB : Hid (false = b) := by rw [← hb, k3]; rfl
    clear hb k3 hl
    go_enter Tryz.func128, Tryz.ntmps128
    go_wp2_with fail
    with_reducible refine (HI.out _).mono ?_
    rintro e w2 ⟨rfl, hb2⟩
    have HB2 := hid hb2
    clear hb2
    go_wp2_with fail
    go_ret
    exact ⟨by rw [← HB.out]; rfl, ((Below.refl _ _).alloc (Nat.le_refl _) _).trans (HB2.out.mono (by simp))⟩
  ·obtain ⟨k1, k2, k3⟩ := text_facts ht
   have HB : Hid (false = b) := by rw [← hb, k3]; rfl
   clear hb k3 ht
   go_enter Tryz.func128, Tryz.ntmps128
   go_wp2_with fail
   go_ret
   exact ⟨by rw [← HB.out]; rfl, (Below.refl _ _).alloc (Nat.le_refl _) _⟩
 ·have HB : Hid (false = b) := hid (by rw [← hb, h1]; simp)
  clear hb
  go_enter Tryz.func128, Tryz.ntmps128
  go_wp2_with fail
  go_ret
  exact ⟨by rw [← HB.out]; rfl, (Below.refl _ _).alloc (Nat.le_refl _) _⟩
set_option maxHeartbeats 4000000 in
theorem dform1 (i : Int) (t : ByteArray) (a : Option Addr) (l : List Dt) (c : Nat) (w : World) : Calls Tryz.prog 128 #[.agg #[.int .i64 1, .int .i64 i, .string t, .slice a l.length c]] w (FormPost (Dt.formB 1 i t l) w) := by
 have e1 : isN i = !(i != min (max i (-1152921504606846976)) 1152921504606846975) := by rw [Bool.eq_iff_iff, isN_iff]; simp; omega
 have HR : Hid (Dt.formB 1 i t l = (decide (t = ⟨#[]⟩) && decide (l = []) && !(i != min (max i (-1152921504606846976)) 1152921504606846975))) := by
  unfold Hid
  rw [← e1]
  simp [Dt.formB]
 clear e1
 have HI : Hid (∀ w1, Calls Tryz.prog 127 #[.agg #[.int .i64 1, .int .i64 i, .string t, .slice a l.length c]] w1 fun e w' => e = .returned (.bool false) ∧ Below w1.heap.size w1 w') := fun w1 => ditems_any 1 i t a l.length c w1
 unfold FormPost
 rw [HR.out]
 generalize hb : (decide (t = ⟨#[]⟩) && decide (l = []) && !(i != min (max i (-1152921504606846976)) 1152921504606846975)) = b
 cases h1 : (i != min (max i (-1152921504606846976)) 1152921504606846975)
 ·by_cases ht : t = ⟨#[]⟩
  ·subst ht
   by_cases hl : l = []
   ·subst hl
    have HB : Hid (true = b) := by rw [← hb, h1]; rfl
    clear hb
    go_enter Tryz.func128, Tryz.ntmps128
    go_wp2_with fail
    go_ret
    exact ⟨by rw [← HB.out]; rfl, (Below.refl _ _).alloc (Nat.le_refl _) _⟩
   ·obtain ⟨k1, k2, k3⟩ := list_facts hl
    have HB : Hid (false = b) := by rw [← hb, k3]; rfl
    clear hb k3 hl
    go_enter Tryz.func128, Tryz.ntmps128
    go_wp2_with fail
    with_reducible refine (HI.out _).mono ?_
    rintro e w2 ⟨rfl, hb2⟩
    have HB2 := hid hb2
    clear hb2
    go_wp2_with fail
    go_ret
    exact ⟨by rw [← HB.out]; rfl, ((Below.refl _ _).alloc (Nat.le_refl _) _).trans (HB2.out.mono (by simp))⟩
  ·obtain ⟨k1, k2, k3⟩ := text_facts ht
   have HB : Hid (false = b) := by rw [← hb, k3]; rfl
   clear hb k3 ht
   go_enter Tryz.func128, Tryz.ntmps128
   go_wp2_with fail
   go_ret
   exact ⟨by rw [← HB.out]; rfl, (Below.refl _ _).alloc (Nat.le_refl _) _⟩
 ·have HB : Hid (false = b) := hid (by rw [← hb, h1]; simp)
  clear hb
  go_enter Tryz.func128, Tryz.ntmps128
  go_wp2_with fail
  go_ret
  exact ⟨by rw [← HB.out]; rfl, (Below.refl _ _).alloc (Nat.le_refl _) _⟩
set_option maxHeartbeats 4000000 in
theorem dform4 (i : Int) (t : ByteArray) (ht : t.size ≤ maxLen) (a : Option Addr) (l : List Dt) (c : Nat) (w : World) : Calls Tryz.prog 128 #[.agg #[.int .i64 4, .int .i64 i, .string t, .slice a l.length c]] w (FormPost (Dt.formB 4 i t l) w) := by
 have HR : Hid (Dt.formB 4 i t l = (decide (i = 0) && decide (l = []) && Nm.nameB t)) := by
  unfold Hid
  simp [Dt.formB]
 have HI : Hid (∀ w1, Calls Tryz.prog 127 #[.agg #[.int .i64 4, .int .i64 i, .string t, .slice a l.length c]] w1 fun e w' => e = .returned (.bool false) ∧ Below w1.heap.size w1 w') := fun w1 => ditems_any 4 i t a l.length c w1
 have HN : Hid (∀ w1, Calls Tryz.prog 80 #[.string t] w1 fun e w' => e = .returned (.bool (Nm.nameB t)) ∧ w1 = w') := fun w1 => dname_any t ht w1
 unfold FormPost
 rw [HR.out]
 generalize hb : (decide (i = 0) && decide (l = []) && Nm.nameB t) = b
 clear ht
 by_cases h1 : i = 0
 ·subst h1
  by_cases hl : l = []
  ·subst hl
   have HB : Hid (Nm.nameB t = b) := by rw [← hb]; exact hid rfl
   clear hb
   go_enter Tryz.func128, Tryz.ntmps128
   go_wp2_with fail
   with_reducible refine (HN.out _).mono ?_
   rintro e w2 ⟨rfl, rfl⟩
   go_wp2_with fail
   go_ret
   exact ⟨by rw [← HB.out]; rfl, (Below.refl _ _).alloc (Nat.le_refl _) _⟩
  ·obtain ⟨k1, k2, k3⟩ := list_facts hl
   have HB : Hid (false = b) := by rw [← hb, k3]; rfl
   clear hb k3 hl
   go_enter Tryz.func128, Tryz.ntmps128
   go_wp2_with fail
   with_reducible refine (HI.out _).mono ?_
   rintro e w2 ⟨rfl, hb2⟩
   have HB2 := hid hb2
   clear hb2
   go_wp2_with fail
   go_ret
   exact ⟨by rw [← HB.out]; rfl, ((Below.refl _ _).alloc (Nat.le_refl _) _).trans (HB2.out.mono (by simp))⟩
 ·have k1 : (i != 0) = true := by simp [h1]
  have HB : Hid (false = b) := hid (by rw [← hb, decide_eq_false h1]; simp)
  clear hb h1
  go_enter Tryz.func128, Tryz.ntmps128
  go_wp2_with fail
  go_ret
  exact ⟨by rw [← HB.out]; rfl, (Below.refl _ _).alloc (Nat.le_refl _) _⟩
set_option maxHeartbeats 4000000 in
theorem dform5 (i : Int) (t : ByteArray) (a : Option Addr) (l : List Dt) (c : Nat) (w : World) : Calls Tryz.prog 128 #[.agg #[.int .i64 5, .int .i64 i, .string t, .slice a l.length c]] w (FormPost (Dt.formB 5 i t l) w) := by
 have HR : Hid (Dt.formB 5 i t l = (decide (i = 0) && decide (t = ⟨#[]⟩))) := by
  unfold Hid
  simp [Dt.formB]
 have HI : Hid (∀ w1, Calls Tryz.prog 127 #[.agg #[.int .i64 5, .int .i64 i, .string t, .slice a l.length c]] w1 fun e w' => e = .returned (.bool true) ∧ Below w1.heap.size w1 w') := fun w1 => ditems_any 5 i t a l.length c w1
 unfold FormPost
 rw [HR.out]
 generalize hb : (decide (i = 0) && decide (t = ⟨#[]⟩)) = b
 by_cases h1 : i = 0
 ·subst h1
  by_cases ht : t = ⟨#[]⟩
  ·subst ht
   have HB : Hid (true = b) := by rw [← hb]; exact hid rfl
   clear hb
   by_cases hl : l = []
   ·subst hl
    go_enter Tryz.func128, Tryz.ntmps128
    go_wp2_with fail
    go_ret
    exact ⟨by rw [← HB.out]; rfl, (Below.refl _ _).alloc (Nat.le_refl _) _⟩
   ·obtain ⟨k1, k2, k3⟩ := list_facts hl
    have hc0 : ∀ w2 : World, Below (w.alloc (.cells #[.int .i64 5, .int .i64 0, .string ⟨#[]⟩, .slice a l.length c] 25)).heap.size (w.alloc (.cells #[.int .i64 5, .int .i64 0, .string ⟨#[]⟩, .slice a l.length c] 25)) w2 → w2.cell? ⟨w.heap.size, 0, none⟩ = some (.int .i64 5) := fun w2 hb => (hb.cell (p := ⟨w.heap.size, 0, none⟩) (by simp)).trans (new4 w _ _ _ _ _).1
    have HC0 := hid hc0
    clear k3 hl hc0
    go_enter Tryz.func128, Tryz.ntmps128
    go_wp2_with fail
    with_reducible refine (HI.out _).mono ?_
    rintro e w2 ⟨rfl, hb2⟩
    have c0 := HC0.out w2 hb2
    have HB2 := hid hb2
    clear hb2
    go_wp2_with fail
    go_ret
    exact ⟨by rw [← HB.out]; rfl, ((Below.refl _ _).alloc (Nat.le_refl _) _).trans (HB2.out.mono (by simp))⟩
  ·obtain ⟨k1, k2, k3⟩ := text_facts ht
   have HB : Hid (false = b) := by rw [← hb, k3]; rfl
   clear hb k3 ht
   go_enter Tryz.func128, Tryz.ntmps128
   go_wp2_with fail
   go_ret
   exact ⟨by rw [← HB.out]; rfl, (Below.refl _ _).alloc (Nat.le_refl _) _⟩
 ·have k1 : (i != 0) = true := by simp [h1]
  have HB : Hid (false = b) := hid (by rw [← hb, decide_eq_false h1]; simp)
  clear hb h1
  go_enter Tryz.func128, Tryz.ntmps128
  go_wp2_with fail
  go_ret
  exact ⟨by rw [← HB.out]; rfl, (Below.refl _ _).alloc (Nat.le_refl _) _⟩
set_option maxHeartbeats 4000000 in
theorem dform7 (i : Int) (t : ByteArray) (a : Option Addr) (l : List Dt) (c : Nat) (w : World) : Calls Tryz.prog 128 #[.agg #[.int .i64 7, .int .i64 i, .string t, .slice a l.length c]] w (FormPost (Dt.formB 7 i t l) w) := by
 have HR : Hid (Dt.formB 7 i t l = (decide (i = 0) && decide (t = ⟨#[]⟩))) := by
  unfold Hid
  simp [Dt.formB]
 have HI : Hid (∀ w1, Calls Tryz.prog 127 #[.agg #[.int .i64 7, .int .i64 i, .string t, .slice a l.length c]] w1 fun e w' => e = .returned (.bool true) ∧ Below w1.heap.size w1 w') := fun w1 => ditems_any 7 i t a l.length c w1
 unfold FormPost
 rw [HR.out]
 generalize hb : (decide (i = 0) && decide (t = ⟨#[]⟩)) = b
 by_cases h1 : i = 0
 ·subst h1
  by_cases ht : t = ⟨#[]⟩
  ·subst ht
   have HB : Hid (true = b) := by rw [← hb]; exact hid rfl
   clear hb
   by_cases hl : l = []
   ·subst hl
    go_enter Tryz.func128, Tryz.ntmps128
    go_wp2_with fail
    go_ret
    exact ⟨by rw [← HB.out]; rfl, (Below.refl _ _).alloc (Nat.le_refl _) _⟩
   ·obtain ⟨k1, k2, k3⟩ := list_facts hl
    have hc0 : ∀ w2 : World, Below (w.alloc (.cells #[.int .i64 7, .int .i64 0, .string ⟨#[]⟩, .slice a l.length c] 25)).heap.size (w.alloc (.cells #[.int .i64 7, .int .i64 0, .string ⟨#[]⟩, .slice a l.length c] 25)) w2 → w2.cell? ⟨w.heap.size, 0, none⟩ = some (.int .i64 7) := fun w2 hb => (hb.cell (p := ⟨w.heap.size, 0, none⟩) (by simp)).trans (new4 w _ _ _ _ _).1
    have HC0 := hid hc0
    clear k3 hl hc0
    go_enter Tryz.func128, Tryz.ntmps128
    go_wp2_with fail
    with_reducible refine (HI.out _).mono ?_
    rintro e w2 ⟨rfl, hb2⟩
    have c0 := HC0.out w2 hb2
    have HB2 := hid hb2
    clear hb2
    go_wp2_with fail
    go_ret
    exact ⟨by rw [← HB.out]; rfl, ((Below.refl _ _).alloc (Nat.le_refl _) _).trans (HB2.out.mono (by simp))⟩
  ·obtain ⟨k1, k2, k3⟩ := text_facts ht
   have HB : Hid (false = b) := by rw [← hb, k3]; rfl
   clear hb k3 ht
   go_enter Tryz.func128, Tryz.ntmps128
   go_wp2_with fail
   go_ret
   exact ⟨by rw [← HB.out]; rfl, (Below.refl _ _).alloc (Nat.le_refl _) _⟩
 ·have k1 : (i != 0) = true := by simp [h1]
  have HB : Hid (false = b) := hid (by rw [← hb, decide_eq_false h1]; simp)
  clear hb h1
  go_enter Tryz.func128, Tryz.ntmps128
  go_wp2_with fail
  go_ret
  exact ⟨by rw [← HB.out]; rfl, (Below.refl _ _).alloc (Nat.le_refl _) _⟩
set_option maxHeartbeats 4000000 in
theorem dformx (k : Int) (hk : k < 0 ∨ 7 < k) (i : Int) (t : ByteArray) (a : Option Addr) (l : List Dt) (c : Nat) (w : World) : Calls Tryz.prog 128 #[.agg #[.int .i64 k, .int .i64 i, .string t, .slice a l.length c]] w (FormPost (Dt.formB k i t l) w) := by
 have HR : Hid (Dt.formB k i t l = false) := by
  unfold Hid
  have : ¬ k = 0 ∧ ¬ k = 1 ∧ ¬ k = 2 ∧ ¬ k = 3 ∧ ¬ k = 4 ∧ ¬ k = 5 ∧ ¬ k = 7 ∧ ¬ k = 6 := by omega
  simp [Dt.formB, this]
 have HI : Hid (∀ w1, Calls Tryz.prog 127 #[.agg #[.int .i64 k, .int .i64 i, .string t, .slice a l.length c]] w1 fun e w' => e = .returned (.bool false) ∧ Below w1.heap.size w1 w') := fun w1 => by
  have := ditems_any k i t a l.length c w1
  rw [show (decide (5 ≤ k) && decide (k ≤ 7)) = false by rw [Bool.and_eq_false_iff]; simp; omega] at this
  exact this
 unfold FormPost
 rw [HR.out]
 have j0 : (k == 0) = false := beq_eq_false_iff_ne.2 (by omega)
 have j1 : (k == 1) = false := beq_eq_false_iff_ne.2 (by omega)
 have j2 : (k == 2) = false := beq_eq_false_iff_ne.2 (by omega)
 have j3 : (k == 3) = false := beq_eq_false_iff_ne.2 (by omega)
 have j4 : (k == 4) = false := beq_eq_false_iff_ne.2 (by omega)
 have j6 : (k == 6) = false := beq_eq_false_iff_ne.2 (by omega)
 have hor : decide (0 ≤ k) = false ∨ (decide (0 ≤ k) = true ∧ decide (k < 8) = false) := by
  simp only [decide_eq_true_eq, decide_eq_false_iff_not]
  omega
 clear hk
 by_cases h1 : i = 0
 ·subst h1
  by_cases ht : t = ⟨#[]⟩
  ·subst ht
   by_cases hl : l = []
   ·subst hl
    rcases hor with v1 | ⟨v1, v2⟩
    all_goals
     go_enter Tryz.func128, Tryz.ntmps128
     go_wp2_with fail
     go_ret
     exact ⟨rfl, (Below.refl _ _).alloc (Nat.le_refl _) _⟩
   ·obtain ⟨k1, k2, k3⟩ := list_facts hl
    clear k3 hl hor
    go_enter Tryz.func128, Tryz.ntmps128
    go_wp2_with fail
    with_reducible refine (HI.out _).mono ?_
    rintro e w2 ⟨rfl, hb2⟩
    have HB2 := hid hb2
    clear hb2
    go_wp2_with fail
    go_ret
    exact ⟨rfl, ((Below.refl _ _).alloc (Nat.le_refl _) _).trans (HB2.out.mono (by simp))⟩
  ·obtain ⟨k1, k2, k3⟩ := text_facts ht
   clear k3 ht hor
   go_enter Tryz.func128, Tryz.ntmps128
   go_wp2_with fail
   go_ret
   exact ⟨rfl, (Below.refl _ _).alloc (Nat.le_refl _) _⟩
 ·have k1 : (i != 0) = true := by simp [h1]
  clear h1 hor
  go_enter Tryz.func128, Tryz.ntmps128
  go_wp2_with fail
  go_ret
  exact ⟨rfl, (Below.refl _ _).alloc (Nat.le_refl _) _⟩
theorem wrap64_small {m : Nat} (h : m ≤ 9223372036854775807) : wrap64 (m : Int) = m := by
 unfold wrap64
 omega
theorem cut_ne {t : ByteArray} (h : ¬ t.size ≤ 4096) : ¬ t.toList = (t.extract 0 4096).toList := by
 intro e
 have := congrArg List.length e
 rw [ByteArray.toList_eq, ByteArray.toList_eq] at this
 simp at this
 omega
set_option maxHeartbeats 4000000 in
theorem dform3 (i : Int) (t : ByteArray) (ht : t.size ≤ maxLen) (a : Option Addr) (l : List Dt) (c : Nat) (w : World) : Calls Tryz.prog 128 #[.agg #[.int .i64 3, .int .i64 i, .string t, .slice a l.length c]] w (FormPost (Dt.formB 3 i t l) w) := by
 have HR : Hid (Dt.formB 3 i t l = (decide (i = 0) && decide (l = []) && decide (t.size ≤ 4096))) := by
  unfold Hid
  simp [Dt.formB]
 have HI : Hid (∀ w1, Calls Tryz.prog 127 #[.agg #[.int .i64 3, .int .i64 i, .string t, .slice a l.length c]] w1 fun e w' => e = .returned (.bool false) ∧ Below w1.heap.size w1 w') := fun w1 => ditems_any 3 i t a l.length c w1
 unfold FormPost
 rw [HR.out]
 generalize hb : (decide (i = 0) && decide (l = []) && decide (t.size ≤ 4096)) = b
 unfold maxLen at ht
 by_cases h1 : i = 0
 ·subst h1
  by_cases h2 : t.size ≤ 4096
  ·have m1 : min (t.size : Int) 4096 = t.size := by omega
   by_cases hl : l = []
   ·subst hl
    have HB : Hid (true = b) := by rw [← hb, decide_eq_true h2]; exact hid rfl
    clear hb h2
    go_enter Tryz.func128, Tryz.ntmps128
    go_wp2_with fail
    go_ret
    exact ⟨by rw [← HB.out]; rfl, (Below.refl _ _).alloc (Nat.le_refl _) _⟩
   ·obtain ⟨k1, k2, k3⟩ := list_facts hl
    have HB : Hid (false = b) := by rw [← hb, k3]; rfl
    clear hb k3 hl h2
    go_enter Tryz.func128, Tryz.ntmps128
    go_wp2_with fail
    with_reducible refine (HI.out _).mono ?_
    rintro e w2 ⟨rfl, hb2⟩
    have HB2 := hid hb2
    clear hb2
    go_wp2_with fail
    go_ret
    exact ⟨by rw [← HB.out]; rfl, ((Below.refl _ _).alloc (Nat.le_refl _) _).trans (HB2.out.mono (by simp))⟩
  ·have m1 : min (t.size : Int) 4096 = 4096 := by omega
   have HB : Hid (false = b) := hid (by rw [← hb, decide_eq_false h2]; simp)
   have HH := hid h2
   have h3 : (4096 : Int) ≤ t.size := by omega
   have n1 : ¬ t.toList = (t.extract 0 4096).toList := cut_ne h2
   have n2 : (t.toList == (t.extract 0 4096).toList) = false := beq_eq_false_iff_ne.2 n1
   clear hb h2
   go_enter Tryz.func128, Tryz.ntmps128
   go_wp2_with fail
   go_ret
   exact ⟨by rw [← HB.out]; rfl, (Below.refl _ _).alloc (Nat.le_refl _) _⟩
 ·have k1 : (i != 0) = true := by simp [h1]
  have HB : Hid (false = b) := hid (by rw [← hb, decide_eq_false h1]; simp)
  clear hb h1
  by_cases h2 : t.size ≤ 4096
  ·have m1 : min (t.size : Int) 4096 = t.size := by omega
   go_enter Tryz.func128, Tryz.ntmps128
   go_wp2_with fail
   go_ret
   exact ⟨by rw [← HB.out]; rfl, (Below.refl _ _).alloc (Nat.le_refl _) _⟩
  ·have m1 : min (t.size : Int) 4096 = 4096 := by omega
   have h3 : (4096 : Int) ≤ t.size := by omega
   go_enter Tryz.func128, Tryz.ntmps128
   go_wp2_with fail
   go_ret
   exact ⟨by rw [← HB.out]; rfl, (Below.refl _ _).alloc (Nat.le_refl _) _⟩
theorem DtAt.last {w : World} {S : Nat → Prop} {k i : Int} {t : ByteArray} {a : Option Addr} {c m : Nat} {l : List Dt} (h : DtAt w S (.agg #[.int .i64 k, .int .i64 i, .string t, .slice a l.length c]) (.mk k i t l)) (hl : l.length = m + 1) :
  ∃ b off, a = some ⟨b, off, none⟩ ∧ b < w.heap.size ∧ w.cell? ⟨b, off + m * 4, none⟩ = some (.int .i64 (Dt.lastKind l)) := by
 obtain ⟨a', c', hv, h0 | ⟨b, off, ha, hb, _, hat⟩⟩ := h.inv
 ·simp only [Dt.list_mk] at h0
  rw [h0.2.2] at hl
  simp at hl
 ·simp only [Dt.list_mk, Dt.kind_mk, Dt.int_mk, Dt.text_mk] at hv hat
  obtain rfl : a = a' := by simpa using (by simpa using hv : a = a' ∧ c = c').1
  obtain ⟨x, hx⟩ : ∃ x, l[m]? = some x := ⟨_, List.getElem?_eq_getElem (by omega)⟩
  obtain ⟨_, h1, _⟩ := hat m x hx
  refine ⟨b, off, ha, hb, ?_⟩
  rw [h1]
  have : l.getLast? = some x := by
   rw [List.getLast?_eq_getElem?, hl]
   exact hx
  simp [Dt.lastKind, this]
set_option maxHeartbeats 4000000 in
theorem dform6 (i : Int) (t : ByteArray) (a : Option Addr) (l : List Dt) (hlm : l.length ≤ 9223372036854775807) (c : Nat) (w : World) (hd : DtAt w (fun _ => True) (.agg #[.int .i64 6, .int .i64 i, .string t, .slice a l.length c]) (.mk 6 i t l)) : Calls Tryz.prog 128 #[.agg #[.int .i64 6, .int .i64 i, .string t, .slice a l.length c]] w (FormPost (Dt.formB 6 i t l) w) := by
 have HR : Hid (Dt.formB 6 i t l = (decide (i = 0) && decide (t = ⟨#[]⟩) && (decide (2 ≤ l.length) && decide (Dt.lastKind l ≠ 5) && decide (Dt.lastKind l ≠ 6)))) := by
  unfold Hid
  simp [Dt.formB]
 have HI : Hid (∀ w1, Calls Tryz.prog 127 #[.agg #[.int .i64 6, .int .i64 i, .string t, .slice a l.length c]] w1 fun e w' => e = .returned (.bool true) ∧ Below w1.heap.size w1 w') := fun w1 => ditems_any 6 i t a l.length c w1
 have HD := hid hd
 have HLM := hid hlm
 clear hlm
 unfold FormPost
 rw [HR.out]
 generalize hb : (decide (i = 0) && decide (t = ⟨#[]⟩) && (decide (2 ≤ l.length) && decide (Dt.lastKind l ≠ 5) && decide (Dt.lastKind l ≠ 6))) = b
 clear hd
 by_cases h1 : i = 0
 ·subst h1
  by_cases ht : t = ⟨#[]⟩
  ·subst ht
   have hb' : (decide (2 ≤ l.length) && decide (Dt.lastKind l ≠ 5) && decide (Dt.lastKind l ≠ 6)) = b := by rw [← hb]; simp
   clear hb HR
   by_cases hl : l = []
   ·subst hl
    have HB : Hid (false = b) := by rw [← hb']; exact hid rfl
    clear hb'
    go_enter Tryz.func128, Tryz.ntmps128
    go_wp2_with fail
    go_ret
    exact ⟨by rw [← HB.out]; rfl, (Below.refl _ _).alloc (Nat.le_refl _) _⟩
   ·obtain ⟨k1, k2, k3⟩ := list_facts hl
    obtain ⟨m, hm⟩ : ∃ m, l.length = m + 1 := ⟨l.length - 1, by omega⟩
    obtain ⟨b0, o0, rfl, hb0, hlast⟩ := HD.out.last hm
    have hbw := (Below.refl w.heap.size w).alloc (Nat.le_refl _) (.cells #[.int .i64 6, .int .i64 0, .string ⟨#[]⟩, .slice (some ⟨b0, o0, none⟩) (m + 1) c] 25)
    rw [hm] at hb' HI ⊢
    generalize Dt.lastKind l = lk at *
    have hc : ∀ w2 : World, Below (w.alloc (.cells #[.int .i64 6, .int .i64 0, .string ⟨#[]⟩, .slice (some ⟨b0, o0, none⟩) (m + 1) c] 25)).heap.size (w.alloc (.cells #[.int .i64 6, .int .i64 0, .string ⟨#[]⟩, .slice (some ⟨b0, o0, none⟩) (m + 1) c] 25)) w2 → w2.cell? ⟨w.heap.size, 0, none⟩ = some (.int .i64 6) ∧ w2.cell? ⟨w.heap.size, 3, none⟩ = some (.slice (some ⟨b0, o0, none⟩) (m + 1) c) ∧ w2.cell? ⟨b0, o0 + m * 4, none⟩ = some (.int .i64 lk) := fun w2 hb =>
     ⟨(hb.cell (p := ⟨w.heap.size, 0, none⟩) (by simp)).trans (new4 w _ _ _ _ _).1, (hb.cell (p := ⟨w.heap.size, 3, none⟩) (by simp)).trans (new4 w _ _ _ _ _).2.2.2, (hb.cell (p := ⟨b0, o0 + m * 4, none⟩) (by simp; omega)).trans ((hbw.cell (p := ⟨b0, o0 + m * 4, none⟩) hb0).trans hlast)⟩
    have HC := hid hc
    have g1 : (0 : Int) ≤ m := by omega
    have g2 : (m : Int) < m + 1 := by omega
    by_cases h2 : m = 0
    ·subst h2
     have HB : Hid (false = b) := by rw [← hb']; exact hid rfl
     clear hc hbw hlast hb' k1 k2 k3 hl hm
     go_enter Tryz.func128, Tryz.ntmps128
     go_wp2_with fail
     with_reducible refine (HI.out _).mono ?_
     rintro e w2 ⟨rfl, hb2⟩
     obtain ⟨c0, c3, c4⟩ := HC.out w2 hb2
     have HB2 := hid hb2
     clear hb2 c4
     go_wp2_with fail
     go_ret
     exact ⟨by rw [← HB.out]; rfl, ((Below.refl _ _).alloc (Nat.le_refl _) _).trans (HB2.out.mono (by simp))⟩
    ·have h3 : decide (1 < ((m : Int) + 1)) = true := decide_eq_true (by omega)
     have h3' : decide (1 < m + 1) = true := decide_eq_true (by omega)
     have h3'' : 0 < m := by omega
     have gw : wrap64 (m : Int) = m := wrap64_small (by have := HLM.out; omega)
     cases e5 : (lk != 5) <;> cases e6 : (lk != 6)
     all_goals
      have HB : Hid (((lk != 5) && (lk != 6)) = b) := by
       rw [← hb']
       have : decide (2 ≤ m + 1) = true := decide_eq_true (by omega)
       rw [this]
       show _ = _
       by_cases q5 : lk = 5 <;> by_cases q6 : lk = 6 <;> simp [q5, q6]
      rw [e5, e6] at HB
      clear hc hbw hlast hb' k1 k2 k3 hl hm h2
      go_enter Tryz.func128, Tryz.ntmps128
      go_wp2_with fail
      with_reducible refine (HI.out _).mono ?_
      rintro e w2 ⟨rfl, hb2⟩
      obtain ⟨c0, c3, c4⟩ := HC.out w2 hb2
      have HB2 := hid hb2
      clear hb2
      go_wp2_with fail
      go_ret
      exact ⟨by rw [← HB.out]; rfl, ((Below.refl _ _).alloc (Nat.le_refl _) _).trans (HB2.out.mono (by simp))⟩
  ·obtain ⟨k1, k2, k3⟩ := text_facts ht
   have HB : Hid (false = b) := by rw [← hb, k3]; rfl
   clear hb k3 ht
   go_enter Tryz.func128, Tryz.ntmps128
   go_wp2_with fail
   go_ret
   exact ⟨by rw [← HB.out]; rfl, (Below.refl _ _).alloc (Nat.le_refl _) _⟩
 ·have k1 : (i != 0) = true := by simp [h1]
  have HB : Hid (false = b) := hid (by rw [← hb, decide_eq_false h1]; simp)
  clear hb h1
  go_enter Tryz.func128, Tryz.ntmps128
  go_wp2_with fail
  go_ret
  exact ⟨by rw [← HB.out]; rfl, (Below.refl _ _).alloc (Nat.le_refl _) _⟩
theorem dform_any (k i : Int) (t : ByteArray) (ht : t.size ≤ maxLen) (a : Option Addr) (l : List Dt) (hlm : l.length ≤ 9223372036854775807) (c : Nat) (w : World) (hd : DtAt w (fun _ => True) (.agg #[.int .i64 k, .int .i64 i, .string t, .slice a l.length c]) (.mk k i t l)) : Calls Tryz.prog 128 #[.agg #[.int .i64 k, .int .i64 i, .string t, .slice a l.length c]] w (FormPost (Dt.formB k i t l) w) := by
 rcases (by omega : k = 0 ∨ k = 1 ∨ k = 2 ∨ k = 3 ∨ k = 4 ∨ k = 5 ∨ k = 6 ∨ k = 7 ∨ (k < 0 ∨ 7 < k)) with rfl | rfl | rfl | rfl | rfl | rfl | rfl | rfl | hk
 ·exact dform0 i t a l c w
 ·exact dform1 i t a l c w
 ·exact dform2 i t a l c w
 ·exact dform3 i t ht a l c w
 ·exact dform4 i t ht a l c w
 ·exact dform5 i t a l c w
 ·exact dform6 i t a l hlm c w hd
 ·exact dform7 i t a l c w
 ·exact dformx k hk i t a l c w
theorem isN_dec (i : Int) : isN i = (decide (-1152921504606846976 ≤ i) && decide (i < 1152921504606846976)) := by
 rw [Bool.eq_iff_iff, isN_iff]
 simp
 omega
set_option maxHeartbeats 4000000 in
theorem rform0 (i : Int) (t : ByteArray) (a : Option Addr) (l : List Dt) (c : Nat) (w : World) : Calls Tryz.prog 109 #[.agg #[.int .i64 0, .int .i64 i, .string t, .slice a l.length c]] w (FormPost (Dt.formB 0 i t l) w) := by
 unfold FormPost
 generalize hb : Dt.formB 0 i t l = b
 have hb := hid hb
 by_cases ht : t = ⟨#[]⟩
 ·subst ht
  by_cases hl : l = []
  ·subst hl
   by_cases h0 : i = 0
   ·subst h0
    have HB : Hid (true = b) := hid (by rw [← hb.out]; simp [Dt.formB])
    clear hb
    go_enter Tryz.func109, Tryz.ntmps109
    go_wp2_with fail
    go_ret
    exact ⟨by rw [← HB.out]; rfl, (Below.refl _ _).alloc (Nat.le_refl _) _⟩
   ·have j0 : (i == 0) = false := beq_eq_false_iff_ne.2 h0
    have HB : Hid ((i == 1) = b) := hid (by rw [← hb.out]; simp [Dt.formB, h0]; rfl)
    clear hb
    clear h0
    go_enter Tryz.func109, Tryz.ntmps109
    go_wp2_with fail
    go_ret
    exact ⟨by rw [← HB.out]; rfl, (Below.refl _ _).alloc (Nat.le_refl _) _⟩
  ·obtain ⟨l1, l2, l3⟩ := list_facts hl
   have l4 : (l.length == 0) = false := beq_eq_false_iff_ne.2 l2
   by_cases h0 : i = 0
   ·subst h0
    have HB : Hid (false = b) := hid (by rw [← hb.out]; simp [Dt.formB, hl])
    clear hb
    clear l3 hl
    go_enter Tryz.func109, Tryz.ntmps109
    go_wp2_with fail
    go_ret
    exact ⟨by rw [← HB.out]; rfl, (Below.refl _ _).alloc (Nat.le_refl _) _⟩
   ·have j0 : (i == 0) = false := beq_eq_false_iff_ne.2 h0
    have HB : Hid (false = b) := hid (by rw [← hb.out]; simp [Dt.formB, hl])
    clear hb
    clear l3 hl h0
    go_enter Tryz.func109, Tryz.ntmps109
    go_wp2_with fail
    go_ret
    exact ⟨by rw [← HB.out]; rfl, (Below.refl _ _).alloc (Nat.le_refl _) _⟩
 ·obtain ⟨k1, k2, k3⟩ := text_facts ht
  by_cases h0 : i = 0
  ·subst h0
   have HB : Hid (false = b) := hid (by rw [← hb.out]; simp [Dt.formB, ht])
   clear hb
   clear k3 ht
   go_enter Tryz.func109, Tryz.ntmps109
   go_wp2_with fail
   go_ret
   exact ⟨by rw [← HB.out]; rfl, (Below.refl _ _).alloc (Nat.le_refl _) _⟩
  ·have j0 : (i == 0) = false := beq_eq_false_iff_ne.2 h0
   have HB : Hid (false = b) := hid (by rw [← hb.out]; simp [Dt.formB, ht])
   clear hb
   clear k3 ht h0
   go_enter Tryz.func109, Tryz.ntmps109
   go_wp2_with fail
   go_ret
   exact ⟨by rw [← HB.out]; rfl, (Below.refl _ _).alloc (Nat.le_refl _) _⟩
set_option maxHeartbeats 4000000 in
theorem rform1 (i : Int) (t : ByteArray) (a : Option Addr) (l : List Dt) (c : Nat) (w : World) : Calls Tryz.prog 109 #[.agg #[.int .i64 1, .int .i64 i, .string t, .slice a l.length c]] w (FormPost (Dt.formB 1 i t l) w) := by
 unfold FormPost
 generalize hb : Dt.formB 1 i t l = b
 have hb := hid hb
 by_cases ht : t = ⟨#[]⟩
 ·subst ht
  by_cases hl : l = []
  ·subst hl
   by_cases h0 : i = 0
   ·subst h0
    have HB : Hid (true = b) := hid (by rw [← hb.out]; decide +kernel)
    clear hb
    go_enter Tryz.func109, Tryz.ntmps109
    go_wp2_with fail
    go_ret
    exact ⟨by rw [← HB.out]; rfl, (Below.refl _ _).alloc (Nat.le_refl _) _⟩
   ·have j0 : (i == 0) = false := beq_eq_false_iff_ne.2 h0
    cases q1 : decide (-1152921504606846976 ≤ i) <;> cases q2 : decide (i < 1152921504606846976)
    all_goals
     have HB : Hid ((decide (-1152921504606846976 ≤ i) && decide (i < 1152921504606846976)) = b) := hid (by rw [← hb.out]; simp [Dt.formB, isN_dec])
     rw [q1, q2] at HB
     clear hb h0
     go_enter Tryz.func109, Tryz.ntmps109
     go_wp2_with fail
     go_ret
     exact ⟨by rw [← HB.out]; rfl, (Below.refl _ _).alloc (Nat.le_refl _) _⟩
  ·obtain ⟨l1, l2, l3⟩ := list_facts hl
   have l4 : (l.length == 0) = false := beq_eq_false_iff_ne.2 l2
   by_cases h0 : i = 0
   ·subst h0
    have HB : Hid (false = b) := hid (by rw [← hb.out]; simp [Dt.formB, hl])
    clear hb
    clear l3 hl
    go_enter Tryz.func109, Tryz.ntmps109
    go_wp2_with fail
    go_ret
    exact ⟨by rw [← HB.out]; rfl, (Below.refl _ _).alloc (Nat.le_refl _) _⟩
   ·have j0 : (i == 0) = false := beq_eq_false_iff_ne.2 h0
    have HB : Hid (false = b) := hid (by rw [← hb.out]; simp [Dt.formB, hl])
    clear hb
    clear l3 hl h0
    go_enter Tryz.func109, Tryz.ntmps109
    go_wp2_with fail
    go_ret
    exact ⟨by rw [← HB.out]; rfl, (Below.refl _ _).alloc (Nat.le_refl _) _⟩
 ·obtain ⟨k1, k2, k3⟩ := text_facts ht
  by_cases h0 : i = 0
  ·subst h0
   have HB : Hid (false = b) := hid (by rw [← hb.out]; simp [Dt.formB, ht])
   clear hb
   clear k3 ht
   go_enter Tryz.func109, Tryz.ntmps109
   go_wp2_with fail
   go_ret
   exact ⟨by rw [← HB.out]; rfl, (Below.refl _ _).alloc (Nat.le_refl _) _⟩
  ·have j0 : (i == 0) = false := beq_eq_false_iff_ne.2 h0
   have HB : Hid (false = b) := hid (by rw [← hb.out]; simp [Dt.formB, ht])
   clear hb
   clear k3 ht h0
   go_enter Tryz.func109, Tryz.ntmps109
   go_wp2_with fail
   go_ret
   exact ⟨by rw [← HB.out]; rfl, (Below.refl _ _).alloc (Nat.le_refl _) _⟩
set_option maxHeartbeats 4000000 in
theorem rform2 (i : Int) (t : ByteArray) (a : Option Addr) (l : List Dt) (c : Nat) (w : World) : Calls Tryz.prog 109 #[.agg #[.int .i64 2, .int .i64 i, .string t, .slice a l.length c]] w (FormPost (Dt.formB 2 i t l) w) := by
 unfold FormPost
 generalize hb : Dt.formB 2 i t l = b
 have hb := hid hb
 by_cases ht : t = ⟨#[]⟩
 ·subst ht
  by_cases hl : l = []
  ·subst hl
   by_cases h0 : i = 0
   ·subst h0
    have HB : Hid (true = b) := hid (by rw [← hb.out]; decide +kernel)
    clear hb
    go_enter Tryz.func109, Tryz.ntmps109
    go_wp2_with fail
    go_ret
    exact ⟨by rw [← HB.out]; rfl, (Below.refl _ _).alloc (Nat.le_refl _) _⟩
   ·have j0 : (i == 0) = false := beq_eq_false_iff_ne.2 h0
    cases q1 : decide (0 ≤ i) <;> cases q2 : decide (i ≤ 255)
    all_goals
     have HB : Hid ((decide (0 ≤ i) && decide (i ≤ 255)) = b) := hid (by rw [← hb.out]; simp [Dt.formB])
     rw [q1, q2] at HB
     clear hb h0
     go_enter Tryz.func109, Tryz.ntmps109
     go_wp2_with fail
     go_ret
     exact ⟨by rw [← HB.out]; rfl, (Below.refl _ _).alloc (Nat.le_refl _) _⟩
  ·obtain ⟨l1, l2, l3⟩ := list_facts hl
   have l4 : (l.length == 0) = false := beq_eq_false_iff_ne.2 l2
   by_cases h0 : i = 0
   ·subst h0
    have HB : Hid (false = b) := hid (by rw [← hb.out]; simp [Dt.formB, hl])
    clear hb
    clear l3 hl
    go_enter Tryz.func109, Tryz.ntmps109
    go_wp2_with fail
    go_ret
    exact ⟨by rw [← HB.out]; rfl, (Below.refl _ _).alloc (Nat.le_refl _) _⟩
   ·have j0 : (i == 0) = false := beq_eq_false_iff_ne.2 h0
    have HB : Hid (false = b) := hid (by rw [← hb.out]; simp [Dt.formB, hl])
    clear hb
    clear l3 hl h0
    go_enter Tryz.func109, Tryz.ntmps109
    go_wp2_with fail
    go_ret
    exact ⟨by rw [← HB.out]; rfl, (Below.refl _ _).alloc (Nat.le_refl _) _⟩
 ·obtain ⟨k1, k2, k3⟩ := text_facts ht
  by_cases h0 : i = 0
  ·subst h0
   have HB : Hid (false = b) := hid (by rw [← hb.out]; simp [Dt.formB, ht])
   clear hb
   clear k3 ht
   go_enter Tryz.func109, Tryz.ntmps109
   go_wp2_with fail
   go_ret
   exact ⟨by rw [← HB.out]; rfl, (Below.refl _ _).alloc (Nat.le_refl _) _⟩
  ·have j0 : (i == 0) = false := beq_eq_false_iff_ne.2 h0
   have HB : Hid (false = b) := hid (by rw [← hb.out]; simp [Dt.formB, ht])
   clear hb
   clear k3 ht h0
   go_enter Tryz.func109, Tryz.ntmps109
   go_wp2_with fail
   go_ret
   exact ⟨by rw [← HB.out]; rfl, (Below.refl _ _).alloc (Nat.le_refl _) _⟩
set_option maxHeartbeats 4000000 in
theorem rform3 (i : Int) (t : ByteArray) (a : Option Addr) (l : List Dt) (c : Nat) (w : World) : Calls Tryz.prog 109 #[.agg #[.int .i64 3, .int .i64 i, .string t, .slice a l.length c]] w (FormPost (Dt.formB 3 i t l) w) := by
 unfold FormPost
 generalize hb : Dt.formB 3 i t l = b
 have hb := hid hb
 by_cases ht : t = ⟨#[]⟩
 ·subst ht
  by_cases h0 : i = 0
  ·subst h0
   by_cases hl : l = []
   ·subst hl
    have HB : Hid (true = b) := hid (by rw [← hb.out]; decide +kernel)
    clear hb
    go_enter Tryz.func109, Tryz.ntmps109
    go_wp2_with fail
    go_ret
    exact ⟨by rw [← HB.out]; rfl, (Below.refl _ _).alloc (Nat.le_refl _) _⟩
   ·obtain ⟨l1, l2, l3⟩ := list_facts hl
    have l4 : (l.length == 0) = false := beq_eq_false_iff_ne.2 l2
    have HB : Hid (false = b) := hid (by rw [← hb.out]; simp [Dt.formB, hl])
    clear hb
    clear l3 hl
    go_enter Tryz.func109, Tryz.ntmps109
    go_wp2_with fail
    go_ret
    exact ⟨by rw [← HB.out]; rfl, (Below.refl _ _).alloc (Nat.le_refl _) _⟩
  ·have j0 : (i == 0) = false := beq_eq_false_iff_ne.2 h0
   have HB : Hid (false = b) := hid (by rw [← hb.out]; simp [Dt.formB, h0])
   clear hb
   clear h0
   go_enter Tryz.func109, Tryz.ntmps109
   go_wp2_with fail
   go_ret
   exact ⟨by rw [← HB.out]; rfl, (Below.refl _ _).alloc (Nat.le_refl _) _⟩
 ·obtain ⟨k1, k2, k3⟩ := text_facts ht
  by_cases h0 : i = 0
  ·subst h0
   by_cases hl : l = []
   ·subst hl
    have HB : Hid ((decide ((t.size : Int) ≤ 4096)) = b) := hid (by rw [← hb.out]; simp [Dt.formB]; omega)
    clear hb
    clear k3 ht
    go_enter Tryz.func109, Tryz.ntmps109
    go_wp2_with fail
    go_ret
    exact ⟨by rw [← HB.out]; rfl, (Below.refl _ _).alloc (Nat.le_refl _) _⟩
   ·obtain ⟨l1, l2, l3⟩ := list_facts hl
    have l4 : (l.length == 0) = false := beq_eq_false_iff_ne.2 l2
    have HB : Hid (false = b) := hid (by rw [← hb.out]; simp [Dt.formB, hl])
    clear hb
    clear l3 hl k3 ht
    go_enter Tryz.func109, Tryz.ntmps109
    go_wp2_with fail
    go_ret
    exact ⟨by rw [← HB.out]; rfl, (Below.refl _ _).alloc (Nat.le_refl _) _⟩
  ·have j0 : (i == 0) = false := beq_eq_false_iff_ne.2 h0
   have HB : Hid (false = b) := hid (by rw [← hb.out]; simp [Dt.formB, h0])
   clear hb
   clear h0 k3 ht
   go_enter Tryz.func109, Tryz.ntmps109
   go_wp2_with fail
   go_ret
   exact ⟨by rw [← HB.out]; rfl, (Below.refl _ _).alloc (Nat.le_refl _) _⟩
set_option maxHeartbeats 4000000 in
theorem rform4 (i : Int) (t : ByteArray) (a : Option Addr) (l : List Dt) (c : Nat) (w : World) (hts : t.size ≤ maxLen) : Calls Tryz.prog 109 #[.agg #[.int .i64 4, .int .i64 i, .string t, .slice a l.length c]] w (FormPost (Dt.formB 4 i t l) w) := by
 have HN : Hid (∀ w1, Calls Tryz.prog 87 #[.string t] w1 fun e w' => e = .returned (.bool (Nm.nameB t)) ∧ w1 = w') := fun w1 => rname_any t hts w1
 clear hts
 unfold FormPost
 generalize hb : Dt.formB 4 i t l = b
 have hb := hid hb
 by_cases ht : t = ⟨#[]⟩
 ·subst ht
  by_cases h0 : i = 0
  ·subst h0
   by_cases hl : l = []
   ·subst hl
    have HB : Hid (Nm.nameB ⟨#[]⟩ = b) := hid (by rw [← hb.out]; simp [Dt.formB])
    clear hb
    go_enter Tryz.func109, Tryz.ntmps109
    go_wp2_with fail
    with_reducible refine (HN.out _).mono ?_
    rintro e w2 ⟨rfl, rfl⟩
    go_wp2_with fail
    go_ret
    exact ⟨by rw [← HB.out]; rfl, (Below.refl _ _).alloc (Nat.le_refl _) _⟩
   ·obtain ⟨l1, l2, l3⟩ := list_facts hl
    have l4 : (l.length == 0) = false := beq_eq_false_iff_ne.2 l2
    have HB : Hid (false = b) := hid (by rw [← hb.out]; simp [Dt.formB, hl])
    clear hb
    clear l3 hl
    go_enter Tryz.func109, Tryz.ntmps109
    go_wp2_with fail
    go_ret
    exact ⟨by rw [← HB.out]; rfl, (Below.refl _ _).alloc (Nat.le_refl _) _⟩
  ·have j0 : (i == 0) = false := beq_eq_false_iff_ne.2 h0
   have HB : Hid (false = b) := hid (by rw [← hb.out]; simp [Dt.formB, h0])
   clear hb
   clear h0
   go_enter Tryz.func109, Tryz.ntmps109
   go_wp2_with fail
   go_ret
   exact ⟨by rw [← HB.out]; rfl, (Below.refl _ _).alloc (Nat.le_refl _) _⟩
 ·obtain ⟨k1, k2, k3⟩ := text_facts ht
  by_cases h0 : i = 0
  ·subst h0
   by_cases hl : l = []
   ·subst hl
    have HB : Hid (Nm.nameB t = b) := hid (by rw [← hb.out]; simp [Dt.formB])
    clear hb
    clear k3 ht
    go_enter Tryz.func109, Tryz.ntmps109
    go_wp2_with fail
    with_reducible refine (HN.out _).mono ?_
    rintro e w2 ⟨rfl, rfl⟩
    go_wp2_with fail
    go_ret
    exact ⟨by rw [← HB.out]; rfl, (Below.refl _ _).alloc (Nat.le_refl _) _⟩
   ·obtain ⟨l1, l2, l3⟩ := list_facts hl
    have l4 : (l.length == 0) = false := beq_eq_false_iff_ne.2 l2
    have HB : Hid (false = b) := hid (by rw [← hb.out]; simp [Dt.formB, hl])
    clear hb
    clear l3 hl k3 ht
    go_enter Tryz.func109, Tryz.ntmps109
    go_wp2_with fail
    go_ret
    exact ⟨by rw [← HB.out]; rfl, (Below.refl _ _).alloc (Nat.le_refl _) _⟩
  ·have j0 : (i == 0) = false := beq_eq_false_iff_ne.2 h0
   have HB : Hid (false = b) := hid (by rw [← hb.out]; simp [Dt.formB, h0])
   clear hb
   clear h0 k3 ht
   go_enter Tryz.func109, Tryz.ntmps109
   go_wp2_with fail
   go_ret
   exact ⟨by rw [← HB.out]; rfl, (Below.refl _ _).alloc (Nat.le_refl _) _⟩
set_option maxHeartbeats 4000000 in
theorem rform5 (i : Int) (t : ByteArray) (a : Option Addr) (l : List Dt) (c : Nat) (w : World) : Calls Tryz.prog 109 #[.agg #[.int .i64 5, .int .i64 i, .string t, .slice a l.length c]] w (FormPost (Dt.formB 5 i t l) w) := by
 unfold FormPost
 generalize hb : Dt.formB 5 i t l = b
 have hb := hid hb
 by_cases ht : t = ⟨#[]⟩
 ·subst ht
  by_cases h0 : i = 0
  ·subst h0
   have HB : Hid (true = b) := hid (by rw [← hb.out]; simp [Dt.formB])
   clear hb
   go_enter Tryz.func109, Tryz.ntmps109
   go_wp2_with fail
   go_ret
   exact ⟨by rw [← HB.out]; rfl, (Below.refl _ _).alloc (Nat.le_refl _) _⟩
  ·have j0 : (i == 0) = false := beq_eq_false_iff_ne.2 h0
   have HB : Hid (false = b) := hid (by rw [← hb.out]; simp [Dt.formB, h0])
   clear hb
   clear h0
   go_enter Tryz.func109, Tryz.ntmps109
   go_wp2_with fail
   go_ret
   exact ⟨by rw [← HB.out]; rfl, (Below.refl _ _).alloc (Nat.le_refl _) _⟩
 ·obtain ⟨k1, k2, k3⟩ := text_facts ht
  by_cases h0 : i = 0
  ·subst h0
   have HB : Hid (false = b) := hid (by rw [← hb.out]; simp [Dt.formB, ht])
   clear hb
   clear k3 ht
   go_enter Tryz.func109, Tryz.ntmps109
   go_wp2_with fail
   go_ret
   exact ⟨by rw [← HB.out]; rfl, (Below.refl _ _).alloc (Nat.le_refl _) _⟩
  ·have j0 : (i == 0) = false := beq_eq_false_iff_ne.2 h0
   have HB : Hid (false = b) := hid (by rw [← hb.out]; simp [Dt.formB, ht])
   clear hb
   clear k3 ht h0
   go_enter Tryz.func109, Tryz.ntmps109
   go_wp2_with fail
   go_ret
   exact ⟨by rw [← HB.out]; rfl, (Below.refl _ _).alloc (Nat.le_refl _) _⟩
set_option maxHeartbeats 4000000 in
theorem rform7 (i : Int) (t : ByteArray) (a : Option Addr) (l : List Dt) (c : Nat) (w : World) : Calls Tryz.prog 109 #[.agg #[.int .i64 7, .int .i64 i, .string t, .slice a l.length c]] w (FormPost (Dt.formB 7 i t l) w) := by
 unfold FormPost
 generalize hb : Dt.formB 7 i t l = b
 have hb := hid hb
 by_cases ht : t = ⟨#[]⟩
 ·subst ht
  by_cases h0 : i = 0
  ·subst h0
   have HB : Hid (true = b) := hid (by rw [← hb.out]; simp [Dt.formB])
   clear hb
   go_enter Tryz.func109, Tryz.ntmps109
   go_wp2_with fail
   go_ret
   exact ⟨by rw [← HB.out]; rfl, (Below.refl _ _).alloc (Nat.le_refl _) _⟩
  ·have j0 : (i == 0) = false := beq_eq_false_iff_ne.2 h0
   have HB : Hid (false = b) := hid (by rw [← hb.out]; simp [Dt.formB, h0])
   clear hb
   clear h0
   go_enter Tryz.func109, Tryz.ntmps109
   go_wp2_with fail
   go_ret
   exact ⟨by rw [← HB.out]; rfl, (Below.refl _ _).alloc (Nat.le_refl _) _⟩
 ·obtain ⟨k1, k2, k3⟩ := text_facts ht
  by_cases h0 : i = 0
  ·subst h0
   have HB : Hid (false = b) := hid (by rw [← hb.out]; simp [Dt.formB, ht])
   clear hb
   clear k3 ht
   go_enter Tryz.func109, Tryz.ntmps109
   go_wp2_with fail
   go_ret
   exact ⟨by rw [← HB.out]; rfl, (Below.refl _ _).alloc (Nat.le_refl _) _⟩
  ·have j0 : (i == 0) = false := beq_eq_false_iff_ne.2 h0
   have HB : Hid (false = b) := hid (by rw [← hb.out]; simp [Dt.formB, ht])
   clear hb
   clear k3 ht h0
   go_enter Tryz.func109, Tryz.ntmps109
   go_wp2_with fail
   go_ret
   exact ⟨by rw [← HB.out]; rfl, (Below.refl _ _).alloc (Nat.le_refl _) _⟩
set_option maxHeartbeats 4000000 in
theorem rform6 (i : Int) (t : ByteArray) (a : Option Addr) (l : List Dt) (c : Nat) (w : World) (hlm : l.length ≤ 9223372036854775807) (hd : DtAt w (fun _ => True) (.agg #[.int .i64 6, .int .i64 i, .string t, .slice a l.length c]) (.mk 6 i t l)) : Calls Tryz.prog 109 #[.agg #[.int .i64 6, .int .i64 i, .string t, .slice a l.length c]] w (FormPost (Dt.formB 6 i t l) w) := by
 have HD := hid hd
 have HLM := hid hlm
 clear hd hlm
 unfold FormPost
 generalize hb : Dt.formB 6 i t l = b
 have hb := hid hb
 by_cases ht : t = ⟨#[]⟩
 ·subst ht
  by_cases h0 : i = 0
  ·subst h0
   by_cases hl2 : 2 ≤ l.length
   ·obtain ⟨m, hm⟩ : ∃ m, l.length = m + 1 := ⟨l.length - 1, by omega⟩
    obtain ⟨b0, o0, rfl, hb0, hlast⟩ := HD.out.last hm
    have HB0 : Hid ((decide (Dt.lastKind l ≠ 5) && decide (Dt.lastKind l ≠ 6)) = b) := hid (by rw [← hb.out]; simp [Dt.formB, hl2])
    have gw : wrap64 (m : Int) = m := wrap64_small (by have := HLM.out; omega)
    have h3 : decide ((2 : Int) ≤ (m : Int) + 1) = true := decide_eq_true (by omega)
    have h4 : 1 ≤ m := by omega
    have g1 : (0 : Int) ≤ m := by omega
    have g2 : (m : Int) < m + 1 := by omega
    rw [hm]
    generalize Dt.lastKind l = lk at *
    cases e5 : (lk != 5) <;> cases e6 : (lk != 6)
    all_goals
     have HB : Hid (((lk != 5) && (lk != 6)) = b) := hid (by rw [← HB0.out]; by_cases q5 : lk = 5 <;> by_cases q6 : lk = 6 <;> simp [q5, q6])
     rw [e5, e6] at HB
     clear hb hl2 hm HLM
     go_enter Tryz.func109, Tryz.ntmps109
     go_wp2_with fail
     go_ret
     exact ⟨by rw [← HB.out]; rfl, (Below.refl _ _).alloc (Nat.le_refl _) _⟩
   ·have HB : Hid (false = b) := hid (by rw [← hb.out]; simp [Dt.formB]; omega)
    have h3 : decide ((2 : Int) ≤ (l.length : Int)) = false := decide_eq_false (by omega)
    have h4 : decide (2 ≤ l.length) = false := decide_eq_false (by omega)
    have h5 : ¬ 2 ≤ l.length := hl2
    clear hb hl2
    go_enter Tryz.func109, Tryz.ntmps109
    go_wp2_with fail
    go_ret
    exact ⟨by rw [← HB.out]; rfl, (Below.refl _ _).alloc (Nat.le_refl _) _⟩
  ·have j0 : (i == 0) = false := beq_eq_false_iff_ne.2 h0
   have HB : Hid (false = b) := hid (by rw [← hb.out]; simp [Dt.formB, h0])
   clear hb
   clear h0
   go_enter Tryz.func109, Tryz.ntmps109
   go_wp2_with fail
   go_ret
   exact ⟨by rw [← HB.out]; rfl, (Below.refl _ _).alloc (Nat.le_refl _) _⟩
 ·obtain ⟨k1, k2, k3⟩ := text_facts ht
  by_cases h0 : i = 0
  ·subst h0
   have HB : Hid (false = b) := hid (by rw [← hb.out]; simp [Dt.formB, ht])
   clear hb
   clear k3 ht
   go_enter Tryz.func109, Tryz.ntmps109
   go_wp2_with fail
   go_ret
   exact ⟨by rw [← HB.out]; rfl, (Below.refl _ _).alloc (Nat.le_refl _) _⟩
  ·have j0 : (i == 0) = false := beq_eq_false_iff_ne.2 h0
   have HB : Hid (false = b) := hid (by rw [← hb.out]; simp [Dt.formB, ht])
   clear hb
   clear k3 ht h0
   go_enter Tryz.func109, Tryz.ntmps109
   go_wp2_with fail
   go_ret
   exact ⟨by rw [← HB.out]; rfl, (Below.refl _ _).alloc (Nat.le_refl _) _⟩
set_option maxHeartbeats 4000000 in
theorem rformx (k : Int) (hk : k < 0 ∨ 7 < k) (i : Int) (t : ByteArray) (a : Option Addr) (l : List Dt) (c : Nat) (w : World) : Calls Tryz.prog 109 #[.agg #[.int .i64 k, .int .i64 i, .string t, .slice a l.length c]] w (FormPost (Dt.formB k i t l) w) := by
 have hkk : ¬ k = 0 ∧ ¬ k = 1 ∧ ¬ k = 2 ∧ ¬ k = 3 ∧ ¬ k = 4 ∧ ¬ k = 5 ∧ ¬ k = 7 ∧ ¬ k = 6 := by omega
 unfold FormPost
 generalize hb : Dt.formB k i t l = b
 have hb := hid hb
 have HB : Hid (false = b) := hid (by rw [← hb.out]; simp [Dt.formB, hkk])
 have m0 : (k == 0) = false := beq_eq_false_iff_ne.2 (by omega)
 have m1 : (k == 1) = false := beq_eq_false_iff_ne.2 (by omega)
 have m2 : (k == 2) = false := beq_eq_false_iff_ne.2 (by omega)
 have m3 : (k == 3) = false := beq_eq_false_iff_ne.2 (by omega)
 have m4 : (k == 4) = false := beq_eq_false_iff_ne.2 (by omega)
 have m5 : (k == 5) = false := beq_eq_false_iff_ne.2 (by omega)
 have m6 : (k == 6) = false := beq_eq_false_iff_ne.2 (by omega)
 have m7 : (k == 7) = false := beq_eq_false_iff_ne.2 (by omega)
 clear hb hkk hk
 by_cases ht : t = ⟨#[]⟩
 ·subst ht
  by_cases h0 : i = 0
  ·subst h0
   go_enter Tryz.func109, Tryz.ntmps109
   go_wp2_with fail
   go_ret
   exact ⟨by rw [← HB.out]; rfl, (Below.refl _ _).alloc (Nat.le_refl _) _⟩
  ·have j0 : (i == 0) = false := beq_eq_false_iff_ne.2 h0
   clear h0
   go_enter Tryz.func109, Tryz.ntmps109
   go_wp2_with fail
   go_ret
   exact ⟨by rw [← HB.out]; rfl, (Below.refl _ _).alloc (Nat.le_refl _) _⟩
 ·obtain ⟨k1, k2, k3⟩ := text_facts ht
  clear k3 ht
  by_cases h0 : i = 0
  ·subst h0
   go_enter Tryz.func109, Tryz.ntmps109
   go_wp2_with fail
   go_ret
   exact ⟨by rw [← HB.out]; rfl, (Below.refl _ _).alloc (Nat.le_refl _) _⟩
  ·have j0 : (i == 0) = false := beq_eq_false_iff_ne.2 h0
   clear h0
   go_enter Tryz.func109, Tryz.ntmps109
   go_wp2_with fail
   go_ret
   exact ⟨by rw [← HB.out]; rfl, (Below.refl _ _).alloc (Nat.le_refl _) _⟩
theorem rform_any (k i : Int) (t : ByteArray) (ht : t.size ≤ maxLen) (a : Option Addr) (l : List Dt) (hlm : l.length ≤ 9223372036854775807) (c : Nat) (w : World) (hd : DtAt w (fun _ => True) (.agg #[.int .i64 k, .int .i64 i, .string t, .slice a l.length c]) (.mk k i t l)) : Calls Tryz.prog 109 #[.agg #[.int .i64 k, .int .i64 i, .string t, .slice a l.length c]] w (FormPost (Dt.formB k i t l) w) := by
 rcases (by omega : k = 0 ∨ k = 1 ∨ k = 2 ∨ k = 3 ∨ k = 4 ∨ k = 5 ∨ k = 6 ∨ k = 7 ∨ (k < 0 ∨ 7 < k)) with rfl | rfl | rfl | rfl | rfl | rfl | rfl | rfl | hk
 ·exact rform0 i t a l c w
 ·exact rform1 i t a l c w
 ·exact rform2 i t a l c w
 ·exact rform3 i t a l c w
 ·exact rform4 i t a l c w ht
 ·exact rform5 i t a l c w
 ·exact rform6 i t a l c w hlm hd
 ·exact rform7 i t a l c w
 ·exact rformx k hk i t a l c w
namespace Dt
mutual
def chk : Dt → Nat → Nat → Nat × Int
 | mk k i t l, deep, seen =>
  if seen = 4096 then (seen, 22)
  else if (decide (5 ≤ k) && decide (k ≤ 7)) && decide (deep = 32) then (seen + 1, 21)
  else if formB k i t l then chks l (deep + 1) (seen + 1)
  else (seen + 1, 20)
def chks : List Dt → Nat → Nat → Nat × Int
 | [], _, seen => (seen, 0)
 | x :: l, deep, seen => if (chk x deep seen).2 = 0 then chks l deep (chk x deep seen).1 else chk x deep seen
end
theorem chks_app : ∀ (l r : List Dt) (d s : Nat), chks (l ++ r) d s = if (chks l d s).2 = 0 then chks r d (chks l d s).1 else chks l d s
 | [], r, d, s => by simp [chks]
 | x :: l, r, d, s => by
  rw [List.cons_append, chks, chks]
  by_cases h : (chk x d s).2 = 0
  ·rw [if_pos h, if_pos h, chks_app l r d]
  ·rw [if_neg h, if_neg h, if_neg h]
theorem chks_step {l : List Dt} {k d s sk : Nat} {x : Dt} (hx : l[k]? = some x) (h : chks (l.take k) d s = (sk, 0)) (h0 : (chk x d sk).2 = 0) : chks (l.take (k + 1)) d s = ((chk x d sk).1, 0) := by
 rw [List.take_add_one, hx, chks_app, h]
 simp [chks, h0]
theorem chks_stop {l : List Dt} {k d s sk : Nat} {x : Dt} (hx : l[k]? = some x) (h : chks (l.take k) d s = (sk, 0)) (h0 : ¬ (chk x d sk).2 = 0) : chks l d s = chk x d sk := by
 have hk : k < l.length := (List.getElem?_eq_some_iff.1 hx).1
 have e : l = l.take k ++ (x :: l.drop (k + 1)) := by
  have h1 : l[k] = x := (List.getElem?_eq_some_iff.1 hx).2
  rw [← h1, ← List.drop_eq_getElem_cons hk, List.take_append_drop]
 rw [e, chks_app, h]
 simp [chks, h0]
mutual
theorem chk_le : ∀ (x : Dt) (d s : Nat), s ≤ 4096 → s ≤ (chk x d s).1 ∧ (chk x d s).1 ≤ 4096 ∧ ((chk x d s).2 = 0 → s + x.nodes ≤ (chk x d s).1)
 | mk k i t l, d, s, hs => by
  rw [chk]
  split
  ·exact ⟨by simp, by simp; omega, fun h => by simp at h⟩
  ·split
   ·exact ⟨by simp, by simp; omega, fun h => by simp at h⟩
   ·split
    ·have := chks_le l (d + 1) (s + 1) (by omega)
     refine ⟨by omega, this.2.1, fun h => ?_⟩
     have h2 := this.2.2 h
     rw [nodes]
     omega
    ·exact ⟨by simp, by simp; omega, fun h => by simp at h⟩
theorem chks_le : ∀ (l : List Dt) (d s : Nat), s ≤ 4096 → s ≤ (chks l d s).1 ∧ (chks l d s).1 ≤ 4096 ∧ ((chks l d s).2 = 0 → s + nodess l ≤ (chks l d s).1)
 | [], d, s, hs => by simp [chks, nodess, hs]
 | x :: l, d, s, hs => by
  rw [chks]
  have h1 := chk_le x d s hs
  split
  ·rename_i h0
   have h2 := chks_le l d (chk x d s).1 h1.2.1
   refine ⟨by omega, h2.2.1, fun h => ?_⟩
   have := h2.2.2 h
   have := h1.2.2 h0
   rw [nodess]
   omega
  ·rename_i h0
   exact ⟨h1.1, h1.2.1, fun h => absurd h h0⟩
end
theorem form_items {k i : Int} {t : ByteArray} {l : List Dt} (h : formB k i t l = true) (hl : l ≠ []) : (decide (5 ≤ k) && decide (k ≤ 7)) = true := by
 rcases (by omega : k = 0 ∨ k = 1 ∨ k = 2 ∨ k = 3 ∨ k = 4 ∨ k = 5 ∨ k = 6 ∨ k = 7 ∨ (k < 0 ∨ 7 < k)) with rfl | rfl | rfl | rfl | rfl | rfl | rfl | rfl | hk
 all_goals first
  | rfl
  | (simp [formB, hl] at h)
  | skip
 have hkk : ¬ k = 0 ∧ ¬ k = 1 ∧ ¬ k = 2 ∧ ¬ k = 3 ∧ ¬ k = 4 ∧ ¬ k = 5 ∧ ¬ k = 7 ∧ ¬ k = 6 := by omega
 simp [formB, hkk] at h
inductive Fit : Dt → Prop
 | mk (k i : Int) (t : ByteArray) (l : List Dt) (ht : t.size ≤ maxLen) (hl : l.length ≤ 9223372036854775807) (h : ∀ (j : Nat) (x : Dt), l[j]? = some x → Fit x) : Fit (.mk k i t l)
theorem Fit.of {d x : Dt} (h : Fit d) (hx : x ∈ d.list) : Fit x := by
 cases h with
 | mk k i t l ht hl h =>
  obtain ⟨j, hj⟩ := List.getElem?_of_mem hx
  exact h j x hj
end Dt
def CkAt (w : World) (cb : Nat) (seen : Nat) : Prop := w.heap[cb]? = some (.cells #[.int .i64 seen] 150 (0, 0))
def CkPost (r : Nat × Int) (cb : Nat) (w : World) (e : Ending) (w' : World) : Prop := e = .returned (.int .i64 r.2) ∧ CkAt w' cb r.1 ∧ Save cb w w'
theorem CkAt.cells {w : World} {cb seen : Nat} (H : CkAt w cb seen) : w.cell? ⟨cb, 0, none⟩ = some (.int .i64 seen) ∧ w.frozen? ⟨cb, 0, none⟩ = false ∧ cb < w.heap.size :=
 ⟨cell_of_row w cb 0 _ _ _ H, frozen_of_row w _ 0 _ _ H, (Array.getElem?_eq_some_iff.1 H).1⟩
theorem CkAt.bel {w w' : World} {cb seen N : Nat} (H : CkAt w cb seen) (hb : Below N w w') (hN : w.heap.size ≤ N) : CkAt w' cb seen := (hb.block cb (by have := H.cells.2.2; omega)).trans H
theorem CkAt.set {w : World} {cb seen seen' : Nat} (H : CkAt w cb seen) : CkAt (w.setCell ⟨cb, 0, none⟩ (.int .i64 seen')) cb seen' := heap_setCell_same _ cb 0 _ _ _ H
structure Ck (w wx : World) (cb seen B : Nat) (k i : Int) (t : ByteArray) (a : Option Addr) (l : List Dt) (c : Nat) : Prop where
 at' : CkAt wx cb seen
 save : Save cb w wx
 box : Cell4 w.heap.size (.int .i64 k) (.int .i64 i) (.string t) (.slice a l.length c) wx
 dat : DtAt wx (fun b => b < B) (.agg #[.int .i64 k, .int .i64 i, .string t, .slice a l.length c]) (.mk k i t l)
 size : w.heap.size < wx.heap.size
theorem Ck.bel {w wx w2 : World} {cb seen B : Nat} {k i : Int} {t : ByteArray} {a : Option Addr} {l : List Dt} {c : Nat} (H : Ck w wx cb seen B k i t a l c) (hb : Below wx.heap.size wx w2) : Ck w w2 cb seen B k i t a l c := by
 have hs := H.size
 have hz := hb.size
 exact ⟨H.at'.bel hb (Nat.le_refl _), H.save.trans (Save.of hb), H.box.below hb (by omega), H.dat.bel hb (Nat.le_refl _), by omega⟩
theorem Ck.save' {w wx w2 : World} {cb seen seen2 B : Nat} {k i : Int} {t : ByteArray} {a : Option Addr} {l : List Dt} {c : Nat} (H : Ck w wx cb seen B k i t a l c) (hlt : cb < w.heap.size) (hB : B ≤ cb) (hs : Save cb wx w2) (h2 : CkAt w2 cb seen2) : Ck w w2 cb seen2 B k i t a l c := by
 have hz := H.size
 exact ⟨h2, H.save.trans hs, H.box.save hs hz (by omega), H.dat.save hs (by omega), Nat.lt_of_lt_of_le hz hs.size⟩
theorem Ck.first {w : World} {cb seen B : Nat} {k i : Int} {t : ByteArray} {a : Option Addr} {l : List Dt} {c : Nat} (H : CkAt w cb seen) (hB : B ≤ cb) (hd : DtAt w (fun b => b < B) (.agg #[.int .i64 k, .int .i64 i, .string t, .slice a l.length c]) (.mk k i t l)) :
  Ck w ((w.setCell ⟨cb, 0, none⟩ (.int .i64 ((seen : Int) + 1))).alloc (.cells #[.int .i64 k, .int .i64 i, .string t, .slice a l.length c] 25)) cb (seen + 1) B k i t a l c := by
 have hs : (w.setCell ⟨cb, 0, none⟩ (.int .i64 ((seen : Int) + 1))).heap.size = w.heap.size := by simp [World.setCell]
 have hS : Save cb w (w.setCell ⟨cb, 0, none⟩ (.int .i64 ((seen : Int) + 1))) := (Save.of (Below.refl _ _)).set _
 have hb : Below (w.setCell ⟨cb, 0, none⟩ (.int .i64 ((seen : Int) + 1))).heap.size (w.setCell ⟨cb, 0, none⟩ (.int .i64 ((seen : Int) + 1))) ((w.setCell ⟨cb, 0, none⟩ (.int .i64 ((seen : Int) + 1))).alloc (.cells #[.int .i64 k, .int .i64 i, .string t, .slice a l.length c] 25)) := (Below.refl _ _).alloc (Nat.le_refl _) _
 refine ⟨(H.set (seen' := seen + 1)).bel hb (Nat.le_refl _), hS.trans (Save.of hb), ?_, (hd.save hS (by omega)).bel hb (Nat.le_refl _), ?_⟩
 ·have := new4 (w.setCell ⟨cb, 0, none⟩ (.int .i64 ((seen : Int) + 1))) (.int .i64 k) (.int .i64 i) (.string t) (.slice a l.length c) 25
  rw [hs] at this
  exact this
 ·have := hb.size
  simp
set_option maxHeartbeats 8000000 in
set_option maxRecDepth 100000 in
theorem dchk_step (B cb : Nat) (k i : Int) (t : ByteArray) (l : List Dt) (deep seen : Nat) (v : Value) (w : World) (hB : B ≤ cb) (hC : CkAt w cb seen) (hdp : deep ≤ 32) (hsn : seen ≤ 4096) (hd : DtAt w (fun b => b < B) v (.mk k i t l)) (hf : Dt.Fit (.mk k i t l))
  (IH : ∀ x ∈ l, ∀ (vx : Value) (w1 : World) (deep' seen' : Nat), deep' ≤ 32 → seen' ≤ 4096 → DtAt w1 (fun b => b < B) vx x → CkAt w1 cb seen' → Calls Tryz.prog 122 #[.pointer (some ⟨cb, 0, none⟩), vx, .int .i64 deep'] w1 (CkPost (Dt.chk x deep' seen') cb w1)) :
  Calls Tryz.prog 122 #[.pointer (some ⟨cb, 0, none⟩), v, .int .i64 deep] w (CkPost (Dt.chk (.mk k i t l) deep seen) cb w) := by
 obtain ⟨a, c, rfl, _⟩ := hd.inv
 simp only [Dt.kind_mk, Dt.int_mk, Dt.text_mk, Dt.list_mk] at hd ⊢
 obtain ⟨ht, hl⟩ : t.size ≤ maxLen ∧ l.length ≤ 9223372036854775807 := by cases hf; exact ⟨by assumption, by assumption⟩
 obtain ⟨c0, f0, hlt⟩ := hC.cells
 rw [Dt.chk]
 by_cases h0 : seen = 4096
 ·subst h0
  rw [if_pos rfl]
  have HC := hid hC
  clear hd hf IH hC ht hl
  go_enter Tryz.func122, Tryz.ntmps122
  go_wp2_with fail
  go_ret
  exact ⟨rfl, HC.out.bel ((Below.refl _ _).alloc (Nat.le_refl _) _) (Nat.le_refl _), Save.of ((Below.refl _ _).alloc (Nat.le_refl _) _)⟩
 ·rw [if_neg h0]
  have g1 : ((seen : Int) == 4096) = false := beq_eq_false_iff_ne.2 (by omega)
  have g2 : (seen : Int) ≤ 4096 := by omega
  have g3 : (0 : Int) ≤ seen := by omega
  have HK := hid (Ck.first hC hB hd)
  have HF : Hid (∀ w1 : World, DtAt w1 (fun b => b < B) (.agg #[.int .i64 k, .int .i64 i, .string t, .slice a l.length c]) (.mk k i t l) → Calls Tryz.prog 128 #[.agg #[.int .i64 k, .int .i64 i, .string t, .slice a l.length c]] w1 (FormPost (Dt.formB k i t l) w1)) := fun w1 h1 => dform_any k i t ht a l hl c w1 (h1.mono fun _ _ _ => trivial)
  have HI : Hid (∀ w1 : World, Calls Tryz.prog 127 #[.agg #[.int .i64 k, .int .i64 i, .string t, .slice a l.length c]] w1 fun e w' => e = .returned (.bool (decide (5 ≤ k) && decide (k ≤ 7))) ∧ Below w1.heap.size w1 w') := fun w1 => ditems_any k i t a l.length c w1
  have HIH := hid IH
  have HN : Hid (seen ≠ 4096) := h0
  have HSN := hid hsn
  unfold FormPost at HF
  clear hd hf IH hC ht hl h0 hsn
  generalize hit : (decide (5 ≤ k) && decide (k ≤ 7)) = it at *
  by_cases h1 : (it && decide (deep = 32)) = true
  ·rw [if_pos h1]
   rw [Bool.and_eq_true, decide_eq_true_eq] at h1
   obtain ⟨rfl, rfl⟩ := h1
   clear hit
   go_enter Tryz.func122, Tryz.ntmps122
   go_wp2_with fail
   with_reducible refine (HI.out _).mono ?_
   rintro e w2 ⟨rfl, hb2⟩
   have HK2 := hid (HK.out.bel hb2)
   clear hb2
   go_wp2_with fail
   go_ret
   exact ⟨rfl, HK2.out.at', HK2.out.save⟩
  ·rw [if_neg h1]
   have hor : it = false ∨ (it = true ∧ ((deep : Int) == 32) = false ∧ deep < 32) := by
    cases it with
    | false => exact .inl rfl
    | true =>
     have h2 : ¬ deep = 32 := by simpa using h1
     exact .inr ⟨rfl, beq_eq_false_iff_ne.2 (by omega), by omega⟩
   have HOR := hid hor
   have HIT := hid hit
   clear h1 hit hor
   cases hfb : Dt.formB k i t l with
   | false =>
    rw [hfb] at HF
    clear hfb
    rcases HOR.out with rfl | ⟨rfl, v1, _⟩
    all_goals
     go_enter Tryz.func122, Tryz.ntmps122
     go_wp2_with fail
     with_reducible refine (HI.out _).mono ?_
     rintro e w2 ⟨rfl, hb2⟩
     have HK2 := hid (HK.out.bel hb2)
     obtain ⟨q0, q1, q2, q3⟩ := HK2.out.box
     clear hb2
     go_wp2_with fail
     with_reducible refine (HF.out _ HK2.out.dat).mono ?_
     rintro e w3 ⟨rfl, hb3⟩
     have HK3 := hid (HK2.out.bel hb3)
     clear hb3
     go_wp2_with fail
     go_ret
     exact ⟨rfl, HK3.out.at', HK3.out.save⟩
   | true =>
    have HL : Hid (l ≠ [] → deep < 32) := fun hne => by
     rcases HOR.out with e | ⟨_, _, h⟩
     ·have := Dt.form_items hfb hne
      rw [HIT.out, e] at this
      cases this
     ·exact h
    rw [hfb] at HF
    clear hfb
    rw [if_pos rfl]
    rcases HOR.out with rfl | ⟨rfl, v1, _⟩
    all_goals
     go_enter Tryz.func122, Tryz.ntmps122
     go_wp2_with fail
     with_reducible refine (HI.out _).mono ?_
     rintro e w2 ⟨rfl, hb2⟩
     have HK2 := hid (HK.out.bel hb2)
     obtain ⟨q0, q1, q2, q3⟩ := HK2.out.box
     clear hb2
     go_wp2_with fail
     with_reducible refine (HF.out _ HK2.out.dat).mono ?_
     rintro e w3 ⟨rfl, hb3⟩
     have HK3 := hid (HK2.out.bel hb3)
     obtain ⟨p0, p1, p2, p3⟩ := HK3.out.box
     clear hb3 q0 q1 q2 q3
     go_wp2_with fail
     clear p0 p1 p2 p3
     go_loopg [34] l.length (fun gk s34 wx => ∃ (n sk : Nat), n ≤ l.length ∧ gk = l.length - n ∧ s34 = .int .i64 n ∧ Hid (Ck w wx cb sk B k i t a l c) ∧ Hid (Dt.chks (l.take n) (deep + 1) (seen + 1) = (sk, 0)))
     case atStart => exact ⟨0, _, Nat.zero_le _, rfl, rfl, HK3.out, rfl⟩
     case round =>
      obtain ⟨n, sk, hn, rfl, rfl, HKR, HT⟩ := hrel
      by_cases hlt2 : n < l.length
      ·obtain ⟨x, hx⟩ : ∃ x, l[n]? = some x := ⟨_, List.getElem?_eq_getElem hlt2⟩
       have hsk := Dt.chks_le (l.take n) (deep + 1) (seen + 1) (by have := HSN.out; have := HN.out; omega)
       rw [HT.out] at hsk
       obtain ⟨hsk1, hsk2, hsk3⟩ := hsk
       have hnk : n ≤ sk := by
        have h4 := hsk3 rfl
        have h5 := Dt.nodess_len (l.take n)
        simp [Nat.min_eq_left hn] at h5
        omega
       have hdp2 : deep + 1 ≤ 32 := by have := HL.out (fun e => by rw [e] at hx; simp at hx); omega
       obtain ⟨ad, cd, hv, h0 | ⟨b1, o1, ha1, hb1, _, hat⟩⟩ := HKR.out.dat.inv
       ·simp only [Dt.list_mk] at h0
        rw [h0.2.2] at hx; simp at hx
       simp only [Dt.kind_mk, Dt.int_mk, Dt.text_mk, Dt.list_mk] at hv hat
       obtain rfl : a = ad := by simpa using (by simpa using hv : a = ad ∧ c = cd).1
       subst ha1
       obtain ⟨lx, d0, d1, d2, d3, hdx⟩ := hat n x hx
       obtain ⟨ax, cx, rfl⟩ := hdx.slice
       have hg1 : (0 : Int) ≤ n := by omega
       have hg2 : (n : Int) < l.length := by omega
       have hgw : IntKind.i64.wrap ((n : Int) + 1) = n + 1 := by rw [IntKind.wrap_i64]; omega
       have hgd : IntKind.i64.wrap ((deep : Int) + 1) = deep + 1 := by rw [IntKind.wrap_i64]; omega
       have hbA := (Below.refl wr.heap.size wr).alloc (Nat.le_refl _) (.cells #[.int .i64 x.kind, .int .i64 x.int, .string x.text, .slice ax x.list.length cx] 25)
       have HKA := hid (HKR.out.bel hbA)
       have hcall := HIH.out x (List.mem_of_getElem? hx) _ _ (deep + 1) sk hdp2 hsk2 (hdx.bel hbA (Nat.le_refl _)) HKA.out.at'
       have HCALL : Hid (Calls Tryz.prog 122 #[.pointer (some ⟨cb, 0, none⟩), .agg #[.int .i64 x.kind, .int .i64 x.int, .string x.text, .slice ax x.list.length cx], .int .i64 ((deep : Int) + 1)] (wr.alloc (.cells #[.int .i64 x.kind, .int .i64 x.int, .string x.text, .slice ax x.list.length cx] 25)) (CkPost (Dt.chk x (deep + 1) sk) cb (wr.alloc (.cells #[.int .i64 x.kind, .int .i64 x.int, .string x.text, .slice ax x.list.length cx] 25)))) := hcall
       have HX := hid hx
       clear hat hdx hbA hcall hx hv hsk1 hsk2 hsk3
       by_cases hz : (Dt.chk x (deep + 1) sk).2 = 0
       ·have HZ := hid hz
        have HT2 := hid (Dt.chks_step HX.out HT.out hz)
        generalize Dt.chk x (deep + 1) sk = rr at *
        obtain ⟨r1, r2⟩ := rr
        dsimp only at *
        subst hz
        go_wp2_with fail
        with_reducible refine (HCALL.out).mono ?_
        rintro e w5 ⟨rfl, hC5, hS5⟩
        have HK5 := hid (HKA.out.save' hlt hB hS5 hC5)
        clear hC5 hS5
        go_wp2_with fail
        go_roundg (l.length - (n + 1))
        case measure => omega
        case rel => exact ⟨n + 1, _, by omega, rfl, by go_num, HK5.out, HT2.out⟩
       ·have HT2 := hid (Dt.chks_stop HX.out HT.out hz)
        generalize Dt.chk x (deep + 1) sk = rr at *
        obtain ⟨r1, r2⟩ := rr
        dsimp only at *
        have z1 : (r2 != 0) = true := by simpa using hz
        clear hz
        go_wp2_with fail
        with_reducible refine (HCALL.out).mono ?_
        rintro e w5 ⟨rfl, hC5, hS5⟩
        have HK5 := hid (HKA.out.save' hlt hB hS5 hC5)
        clear hC5 hS5
        go_wp2_with fail
        go_ret
        rw [HT2.out]
        exact ⟨rfl, HK5.out.at', HK5.out.save⟩
      ·obtain rfl : l.length = n := by omega
       go_wp2_with fail
       go_ret
       have hT := HT.out
       rw [List.take_length] at hT
       rw [hT]
       exact ⟨rfl, HKR.out.at', HKR.out.save⟩
theorem dchk_n (B cb : Nat) (hB : B ≤ cb) : ∀ (n : Nat) (d : Dt) (v : Value) (deep seen : Nat) (w : World), d.depth ≤ n → deep ≤ 32 → seen ≤ 4096 → DtAt w (fun b => b < B) v d → Dt.Fit d → CkAt w cb seen → Calls Tryz.prog 122 #[.pointer (some ⟨cb, 0, none⟩), v, .int .i64 deep] w (CkPost (Dt.chk d deep seen) cb w)
 | 0, d, v, deep, seen, w, hn, _, _, _, _, _ => by
  rw [Dt.depth_list] at hn
  omega
 | n + 1, d, v, deep, seen, w, hn, h1, h2, h3, h4, h5 => by
  rw [Dt.depth_list] at hn
  obtain ⟨k, i, t, l⟩ := d
  refine dchk_step B cb k i t l deep seen v w hB h5 h1 h2 h3 h4 fun x hx vx w1 deep' seen' g1 g2 g3 g4 => dchk_n B cb hB n x vx deep' seen' w1 ?_ g1 g2 g3 (h4.of hx) g4
  have := Dt.depth_mem _ x hx
  simp only [Dt.list_mk] at hn
  omega
theorem ck_new (w : World) (o : Obj) (t : TypeId) : CkAt ((w.alloc o).alloc (.cells #[.int .i64 0] 150)) (w.heap.size + 1) 0 := heap_new (by simp)
def Dt.chkE (d : Dt) : Int := (Dt.chk d 0 0).2
theorem dcheck_any (d : Dt) (v : Value) (w : World) (hd : DtAt w (fun b => b < w.heap.size) v d) (hf : Dt.Fit d) : Calls Tryz.prog 103 #[v] w fun e w' => e = .returned (.int .i64 d.chkE) ∧ Below w.heap.size w w' := by
 have HC : Hid (∀ (cb : Nat) (w1 : World), w.heap.size ≤ cb → Below w.heap.size w w1 → CkAt w1 cb 0 → Calls Tryz.prog 122 #[.pointer (some ⟨cb, 0, none⟩), v, .int .i64 0] w1 (CkPost (Dt.chk d 0 0) cb w1)) := fun cb w1 h1 h2 h3 => dchk_n w.heap.size cb h1 d.depth d v 0 0 w1 (Nat.le_refl _) (by omega) (by omega) (hd.bel h2 (Nat.le_refl _)) hf h3
 obtain ⟨a, c, rfl, _⟩ := hd.inv
 unfold Dt.chkE
 clear hd hf
 go_enter Tryz.func103, Tryz.ntmps103
 go_wp2_with fail
 with_reducible refine (HC.out (w.heap.size + 1) _ (by omega) (((Below.refl _ _).alloc (Nat.le_refl _) _).alloc (by simp) _) (ck_new _ _ 0)).mono ?_
 rintro e w2 ⟨rfl, _, hs⟩
 have HS := hid hs
 clear hs
 go_wp2_with fail
 go_ret
 exact ⟨rfl, (((Below.refl _ _).alloc (Nat.le_refl _) _).alloc (by simp) _).trans (HS.out.below (by omega) (by simp; omega))⟩
inductive Ex where
 | mk (kind : Int) (name : ByteArray) (names : List ByteArray) (const : Dt) (kids : List Ex)
def Dt.zero : Dt := .mk 0 0 ⟨#[]⟩ []
namespace Ex
def kind : Ex → Int | mk k _ _ _ _ => k
def name : Ex → ByteArray | mk _ n _ _ _ => n
def names : Ex → List ByteArray | mk _ _ l _ _ => l
def const : Ex → Dt | mk _ _ _ c _ => c
def kids : Ex → List Ex | mk _ _ _ _ l => l
def zero : Ex := mk 0 ⟨#[]⟩ [] Dt.zero []
theorem kind_mk (k : Int) (n : ByteArray) (l : List ByteArray) (c : Dt) (ks : List Ex) : (mk k n l c ks).kind = k := rfl
theorem name_mk (k : Int) (n : ByteArray) (l : List ByteArray) (c : Dt) (ks : List Ex) : (mk k n l c ks).name = n := rfl
theorem names_mk (k : Int) (n : ByteArray) (l : List ByteArray) (c : Dt) (ks : List Ex) : (mk k n l c ks).names = l := rfl
theorem const_mk (k : Int) (n : ByteArray) (l : List ByteArray) (c : Dt) (ks : List Ex) : (mk k n l c ks).const = c := rfl
theorem kids_mk (k : Int) (n : ByteArray) (l : List ByteArray) (c : Dt) (ks : List Ex) : (mk k n l c ks).kids = ks := rfl
theorem eta (e : Ex) : mk e.kind e.name e.names e.const e.kids = e := by cases e; rfl
mutual
def size : Ex → Nat | mk _ _ _ _ l => sizes l + 1
def sizes : List Ex → Nat | [] => 0 | x :: l => size x + sizes l
end
mutual
def deep : Ex → Nat | mk _ _ _ _ l => deeps l + 1
def deeps : List Ex → Nat | [] => 0 | x :: l => max (deep x) (deeps l)
end
theorem size_eq (e : Ex) : e.size = sizes e.kids + 1 := by cases e; rw [size]; rfl
theorem deep_eq (e : Ex) : e.deep = deeps e.kids + 1 := by cases e; rw [deep]; rfl
theorem deep_mem : ∀ (l : List Ex) (x : Ex), x ∈ l → x.deep ≤ deeps l
 | [], x, h => by simp at h
 | y :: l, x, h => by
  rw [deeps]
  rcases List.mem_cons.1 h with rfl | h
  ·exact Nat.le_max_left _ _
  ·exact Nat.le_trans (deep_mem l x h) (Nat.le_max_right _ _)
theorem deeps_le {l : List Ex} {n : Nat} (h : ∀ x ∈ l, x.deep ≤ n) : deeps l ≤ n := by
 induction l with
 | nil => simp [deeps]
 | cons x l ih =>
  rw [deeps]
  exact Nat.max_le.2 ⟨h x (by simp), ih fun y hy => h y (by simp [hy])⟩
theorem sizes_app : ∀ l r : List Ex, sizes (l ++ r) = sizes l + sizes r
 | [], r => by simp [sizes]
 | x :: l, r => by rw [List.cons_append, sizes, sizes, sizes_app l r]; omega
theorem sizes_len : ∀ l : List Ex, l.length ≤ sizes l
 | [] => by simp [sizes]
 | x :: l => by
  rw [sizes, size_eq]
  have := sizes_len l
  simp
  omega
theorem size_mem : ∀ (l : List Ex) (x : Ex), x ∈ l → x.size ≤ sizes l
 | [], x, h => by simp at h
 | y :: l, x, h => by
  rw [sizes]
  rcases List.mem_cons.1 h with rfl | h
  ·omega
  ·have := size_mem l x h
   omega
theorem byKids {P : Ex → Prop} (h : ∀ e : Ex, (∀ x ∈ e.kids, P x) → P e) (e : Ex) : P e := by
 have key : ∀ (n : Nat) (e : Ex), e.deep ≤ n → P e := by
  intro n
  induction n with
  | zero =>
   intro e he
   rw [deep_eq] at he
   omega
  | succ n ih =>
   intro e he
   rw [deep_eq] at he
   exact h e fun x hx => ih x (by have := deep_mem _ x hx; omega)
 exact key _ e (Nat.le_refl _)
def inN (l : List ByteArray) (s : ByteArray) : Bool := l.any fun x => decide (x = s)
theorem inN_iff (l : List ByteArray) (s : ByteArray) : inN l s = true ↔ s ∈ l := by
 unfold inN
 rw [List.any_eq_true]
 constructor
 ·rintro ⟨x, hx, h⟩
  exact of_decide_eq_true h ▸ hx
 ·exact fun h => ⟨s, h, decide_eq_true rfl⟩
def binds (k : Int) (n i : Nat) : Bool := decide (k = 5) || decide (k = 9) || decide (k = 10) || decide (k = 8) && decide (i + 1 = n)
mutual
def sets (s : ByteArray) : Ex → Bool
 | mk k nm ns _ ks => decide (k = 2) && decide (nm = s) || setsL s k ns ks.length 0 ks
def setsL (s : ByteArray) (k : Int) (ns : List ByteArray) (n : Nat) : Nat → List Ex → Bool
 | _, [] => false
 | i, x :: l => !(binds k n i && inN ns s) && sets s x || setsL s k ns n (i + 1) l
end
theorem setsL_iff (s : ByteArray) (k : Int) (ns : List ByteArray) (n : Nat) : ∀ (l : List Ex) (i : Nat), setsL s k ns n i l = true ↔ ∃ (j : Nat) (x : Ex), l[j]? = some x ∧ (binds k n (i + j) && inN ns s) = false ∧ sets s x = true
 | [], i => by simp [setsL]
 | x :: l, i => by
  rw [setsL, Bool.or_eq_true, Bool.and_eq_true, setsL_iff s k ns n l (i + 1)]
  constructor
  ·rintro (⟨h1, h2⟩ | ⟨j, y, hj, h1, h2⟩)
   ·exact ⟨0, x, rfl, by rw [Bool.not_eq_true'] at h1; exact h1, h2⟩
   ·exact ⟨j + 1, y, by simpa using hj, by rw [show i + (j + 1) = i + 1 + j by omega]; exact h1, h2⟩
  ·rintro ⟨j, y, hj, h1, h2⟩
   cases j with
   | zero =>
    simp at hj
    subst hj
    exact .inl ⟨by rw [Bool.not_eq_true']; exact h1, h2⟩
   | succ j => exact .inr ⟨j, y, by simpa using hj, by rw [show i + 1 + j = i + (j + 1) by omega]; exact h1, h2⟩
theorem sets_iff (s : ByteArray) (e : Ex) : sets s e = true ↔ e.kind = 2 ∧ e.name = s ∨ ∃ (j : Nat) (x : Ex), e.kids[j]? = some x ∧ (binds e.kind e.kids.length j && inN e.names s) = false ∧ sets s x = true := by
 cases e with
 | mk k nm ns c ks =>
  rw [sets, Bool.or_eq_true, Bool.and_eq_true, setsL_iff]
  simp only [decide_eq_true_eq, kind, name, kids, names, Nat.zero_add]
def assigned (e : Ex) (s : ByteArray) : Bool := (List.range e.kids.length).any fun i => binds e.kind e.kids.length i && (e.kids[i]?.map (sets s)).getD false
theorem assigned_iff (e : Ex) (s : ByteArray) : assigned e s = true ↔ ∃ (j : Nat) (x : Ex), e.kids[j]? = some x ∧ binds e.kind e.kids.length j = true ∧ sets s x = true := by
 unfold assigned
 rw [List.any_eq_true]
 constructor
 ·rintro ⟨i, hi, h⟩
  rw [Bool.and_eq_true] at h
  obtain ⟨x, hx⟩ : ∃ x, e.kids[i]? = some x := ⟨_, List.getElem?_eq_getElem (List.mem_range.1 hi)⟩
  rw [hx] at h
  exact ⟨i, x, hx, h.1, by simpa using h.2⟩
 ·rintro ⟨j, x, hx, h1, h2⟩
  refine ⟨j, List.mem_range.2 (List.getElem?_eq_some_iff.1 hx).1, ?_⟩
  rw [h1, hx]
  simpa using h2
mutual
def fixSet : Ex → Bool
 | mk k nm ns c ks => decide (k = 10) && ns.any (assigned (mk k nm ns c ks)) || fixSets ks
def fixSets : List Ex → Bool
 | [] => false
 | x :: l => fixSet x || fixSets l
end
theorem fixSets_iff : ∀ l : List Ex, fixSets l = true ↔ ∃ x ∈ l, fixSet x = true
 | [] => by simp [fixSets]
 | x :: l => by rw [fixSets, Bool.or_eq_true, fixSets_iff l]; simp
theorem fixSet_iff (e : Ex) : fixSet e = true ↔ e.kind = 10 ∧ (∃ s ∈ e.names, assigned e s = true) ∨ ∃ x ∈ e.kids, fixSet x = true := by
 cases e with
 | mk k nm ns c ks =>
  rw [fixSet, Bool.or_eq_true, Bool.and_eq_true, fixSets_iff, List.any_eq_true]
  simp only [decide_eq_true_eq, kind, name, kids, names]
mutual
def has (q : Int) : Ex → Bool | mk k _ _ _ ks => decide (k = q) || hass q ks
def hass (q : Int) : List Ex → Bool | [] => false | x :: l => has q x || hass q l
end
theorem hass_iff (q : Int) : ∀ l : List Ex, hass q l = true ↔ ∃ x ∈ l, has q x = true
 | [] => by simp [hass]
 | x :: l => by rw [hass, Bool.or_eq_true, hass_iff q l]; simp
theorem has_iff (q : Int) (e : Ex) : has q e = true ↔ e.kind = q ∨ ∃ x ∈ e.kids, has q x = true := by
 cases e with
 | mk k nm ns c ks =>
  rw [has, Bool.or_eq_true, hass_iff]
  simp only [decide_eq_true_eq, kind, kids]
mutual
def isFree (s : ByteArray) : Ex → Bool
 | mk k nm ns _ ks => (decide (k = 1) || decide (k = 2)) && decide (nm = s) || isFreeL s k ns ks.length 0 ks
def isFreeL (s : ByteArray) (k : Int) (ns : List ByteArray) (n : Nat) : Nat → List Ex → Bool
 | _, [] => false
 | i, x :: l => !(binds k n i && inN ns s) && isFree s x || isFreeL s k ns n (i + 1) l
end
theorem isFreeL_iff (s : ByteArray) (k : Int) (ns : List ByteArray) (n : Nat) : ∀ (l : List Ex) (i : Nat), isFreeL s k ns n i l = true ↔ ∃ (j : Nat) (x : Ex), l[j]? = some x ∧ (binds k n (i + j) && inN ns s) = false ∧ isFree s x = true
 | [], i => by simp [isFreeL]
 | x :: l, i => by
  rw [isFreeL, Bool.or_eq_true, Bool.and_eq_true, isFreeL_iff s k ns n l (i + 1)]
  constructor
  ·rintro (⟨h1, h2⟩ | ⟨j, y, hj, h1, h2⟩)
   ·exact ⟨0, x, rfl, by rw [Bool.not_eq_true'] at h1; exact h1, h2⟩
   ·exact ⟨j + 1, y, by simpa using hj, by rw [show i + (j + 1) = i + 1 + j by omega]; exact h1, h2⟩
  ·rintro ⟨j, y, hj, h1, h2⟩
   cases j with
   | zero =>
    simp at hj
    subst hj
    exact .inl ⟨by rw [Bool.not_eq_true']; exact h1, h2⟩
   | succ j => exact .inr ⟨j, y, by simpa using hj, by rw [show i + 1 + j = i + (j + 1) by omega]; exact h1, h2⟩
theorem isFree_iff (s : ByteArray) (e : Ex) : isFree s e = true ↔ (e.kind = 1 ∨ e.kind = 2) ∧ e.name = s ∨ ∃ (j : Nat) (x : Ex), e.kids[j]? = some x ∧ (binds e.kind e.kids.length j && inN e.names s) = false ∧ isFree s x = true := by
 cases e with
 | mk k nm ns c ks =>
  rw [isFree, Bool.or_eq_true, Bool.and_eq_true, isFreeL_iff, Bool.or_eq_true]
  simp only [decide_eq_true_eq, kind, name, kids, names, Nat.zero_add]
mutual
def all (F : Ex → Bool) : Ex → Bool | mk k n l c ks => F (mk k n l c ks) && alls F ks
def alls (F : Ex → Bool) : List Ex → Bool | [] => true | x :: l => all F x && alls F l
end
theorem alls_iff (F : Ex → Bool) : ∀ l : List Ex, alls F l = true ↔ ∀ x ∈ l, all F x = true
 | [] => by simp [alls]
 | x :: l => by rw [alls, Bool.and_eq_true, alls_iff F l]; simp
theorem all_iff (F : Ex → Bool) (e : Ex) : all F e = true ↔ F e = true ∧ ∀ x ∈ e.kids, all F x = true := by
 cases e with
 | mk k nm ns c ks => rw [all, Bool.and_eq_true, alls_iff]; rfl
def prims0 : List ByteArray := [⟨#[114, 101, 97, 100, 45, 117, 56]⟩, ⟨#[101, 114, 114, 111, 114]⟩, ⟨#[118, 111, 105, 100]⟩, ⟨#[37, 119, 105, 110, 100, 101, 114, 115]⟩, ⟨#[37, 117, 110, 115, 101, 116]⟩]
def prims1 : List ByteArray := [⟨#[110, 117, 108, 108, 63]⟩, ⟨#[112, 97, 105, 114, 63]⟩, ⟨#[118, 101, 99, 116, 111, 114, 63]⟩, ⟨#[115, 116, 114, 105, 110, 103, 63]⟩, ⟨#[115, 121, 109, 98, 111, 108, 63]⟩, ⟨#[99, 104, 97, 114, 63]⟩, ⟨#[105, 110, 116, 101, 103, 101, 114, 63]⟩, ⟨#[98, 111, 111, 108, 101, 97, 110, 63]⟩, ⟨#[112, 114, 111, 99, 101, 100, 117, 114, 101, 63]⟩, ⟨#[101, 111, 102, 45, 111, 98, 106, 101, 99, 116, 63]⟩, ⟨#[99, 97, 114]⟩, ⟨#[99, 100, 114]⟩, ⟨#[118, 101, 99, 116, 111, 114, 45, 108, 101, 110, 103, 116, 104]⟩, ⟨#[115, 116, 114, 105, 110, 103, 45, 108, 101, 110, 103, 116, 104]⟩, ⟨#[99, 104, 97, 114, 45, 62, 105, 110, 116, 101, 103, 101, 114]⟩, ⟨#[105, 110, 116, 101, 103, 101, 114, 45, 62, 99, 104, 97, 114]⟩, ⟨#[119, 114, 105, 116, 101, 45, 117, 56]⟩, ⟨#[37, 98, 111, 120]⟩, ⟨#[37, 117, 110, 98, 111, 120]⟩, ⟨#[37, 119, 105, 110, 100, 33]⟩, ⟨#[37, 99, 97, 108, 108, 99, 99]⟩]
def prims2 : List ByteArray := [⟨#[43]⟩, ⟨#[45]⟩, ⟨#[42]⟩, ⟨#[113, 117, 111, 116, 105, 101, 110, 116]⟩, ⟨#[114, 101, 109, 97, 105, 110, 100, 101, 114]⟩, ⟨#[60]⟩, ⟨#[61]⟩, ⟨#[101, 113, 63]⟩, ⟨#[99, 111, 110, 115]⟩, ⟨#[115, 101, 116, 45, 99, 97, 114, 33]⟩, ⟨#[115, 101, 116, 45, 99, 100, 114, 33]⟩, ⟨#[109, 97, 107, 101, 45, 118, 101, 99, 116, 111, 114]⟩, ⟨#[118, 101, 99, 116, 111, 114, 45, 114, 101, 102]⟩, ⟨#[109, 97, 107, 101, 45, 115, 116, 114, 105, 110, 103]⟩, ⟨#[115, 116, 114, 105, 110, 103, 45, 114, 101, 102]⟩, ⟨#[37, 115, 101, 116, 45, 98, 111, 120, 33]⟩]
def prims3 : List ByteArray := [⟨#[118, 101, 99, 116, 111, 114, 45, 115, 101, 116, 33]⟩, ⟨#[115, 116, 114, 105, 110, 103, 45, 115, 101, 116, 33]⟩]
def arity (s : ByteArray) : Int := if inN prims0 s then 0 else if inN prims1 s then 1 else if inN prims2 s then 2 else if inN prims3 s then 3 else -1
def namesB (l : List ByteArray) : Bool := l.all Nm.nameB && decide l.Nodup
def constB (d : Dt) : Bool := decide (d.chkE = 0) && (decide (d.kind = 0) || decide (d.kind = 1) || decide (d.kind = 2) || decide (d.kind = 4) || decide (d.kind = 5) && d.list.isEmpty)
def form (e : Ex) : Bool :=
 if e.kind = 0 then decide (e.name = ⟨#[]⟩) && e.names.isEmpty && e.kids.isEmpty && constB e.const
 else Dt.same e.const Dt.zero && namesB e.names &&
  (if e.kind = 1 then Nm.nameB e.name && e.names.isEmpty && e.kids.isEmpty
  else if e.kind = 2 then Nm.nameB e.name && e.names.isEmpty && decide (e.kids.length = 1)
  else if e.kind = 3 then decide (e.name = ⟨#[]⟩) && e.names.isEmpty && decide (e.kids.length = 3)
  else if e.kind = 4 then decide (e.name = ⟨#[]⟩) && e.names.isEmpty && decide (2 ≤ e.kids.length)
  else if e.kind = 5 then decide (e.name = ⟨#[]⟩) && decide (e.names.length ≤ 6) && decide (e.kids.length = 1)
  else if e.kind = 6 then decide (e.name = ⟨#[]⟩) && e.names.isEmpty && decide (1 ≤ e.kids.length) && decide (e.kids.length ≤ 7)
  else if e.kind = 7 then e.names.isEmpty && decide (arity e.name = e.kids.length)
  else if e.kind = 8 then decide (e.name = ⟨#[]⟩) && decide (e.kids.length = e.names.length + 1)
  else if e.kind = 9 then decide (e.name = ⟨#[]⟩) && decide (e.kids.length = e.names.length + 1)
  else if e.kind = 10 then decide (e.name = ⟨#[]⟩) && decide (1 ≤ e.names.length) && decide (e.kids.length = e.names.length + 1) && (e.kids.take e.names.length).all (fun x => decide (x.kind = 5))
  else false)
mutual
def chk (F : Ex → Bool) : Ex → Nat → Nat → Nat × Int
 | mk k n l c ks, deep, seen =>
  if seen = 4096 then (seen, 62)
  else if 250 ≤ deep then (seen + 1, 61)
  else if F (mk k n l c ks) then chks F ks (deep + 1) (seen + 1)
  else (seen + 1, 60)
def chks (F : Ex → Bool) : List Ex → Nat → Nat → Nat × Int
 | [], _, seen => (seen, 0)
 | x :: l, deep, seen => if (chk F x deep seen).2 = 0 then chks F l deep (chk F x deep seen).1 else chk F x deep seen
end
theorem chk_eq (F : Ex → Bool) (e : Ex) (d s : Nat) : chk F e d s = if s = 4096 then (s, 62) else if 250 ≤ d then (s + 1, 61) else if F e then chks F e.kids (d + 1) (s + 1) else (s + 1, 60) := by
 cases e; rw [chk]; rfl
theorem chk_ok (F : Ex → Bool) : ∀ (n : Nat) (e : Ex), e.deep ≤ n → ∀ (d s : Nat), s ≤ 4096 → (s ≤ (chk F e d s).1 ∧ (chk F e d s).1 ≤ 4096) ∧ ((chk F e d s).2 = 0 ↔ (all F e = true ∧ d + e.deep ≤ 250 ∧ s + e.size ≤ 4096)) ∧ ((chk F e d s).2 = 0 → (chk F e d s).1 = s + e.size) := by
 intro n
 induction n with
 | zero => intro e he; rw [deep_eq] at he; omega
 | succ n ih =>
  intro e he d s hs
  have he' := he
  rw [deep_eq] at he'
  have hl : ∀ (l : List Ex) (d s : Nat), (∀ x ∈ l, x.deep ≤ n) → s ≤ 4096 → (s ≤ (chks F l d s).1 ∧ (chks F l d s).1 ≤ 4096) ∧ ((chks F l d s).2 = 0 ↔ ((∀ x ∈ l, all F x = true) ∧ (∀ x ∈ l, d + x.deep ≤ 250) ∧ s + sizes l ≤ 4096)) ∧ ((chks F l d s).2 = 0 → (chks F l d s).1 = s + sizes l) := by
   intro l
   induction l with
   | nil => intro d s _ hs; simp [chks, sizes, hs]
   | cons x l ihl =>
    intro d s hd hs
    obtain ⟨⟨a1, a2⟩, a3, a4⟩ := ih x (hd x (by simp)) d s hs
    rw [chks]
    by_cases h0 : (chk F x d s).2 = 0
    ·rw [if_pos h0]
     obtain ⟨⟨b1, b2⟩, b3, b4⟩ := ihl d (chk F x d s).1 (fun y hy => hd y (by simp [hy])) a2
     have a5 := a4 h0
     obtain ⟨c1, c2, c3⟩ := a3.1 h0
     refine ⟨⟨by omega, b2⟩, ?_, fun h => ?_⟩
     ·rw [b3, sizes, a5]
      simp only [List.mem_cons, forall_eq_or_imp, c1, c2, true_and]
      constructor
      ·rintro ⟨d1, d2, d3⟩; exact ⟨d1, d2, by omega⟩
      ·rintro ⟨d1, d2, d3⟩; exact ⟨d1, d2, by omega⟩
     ·rw [b4 h, a5, sizes]
      omega
    ·rw [if_neg h0]
     refine ⟨⟨a1, a2⟩, ⟨fun h => absurd h h0, fun ⟨d1, d2, d3⟩ => ?_⟩, fun h => absurd h h0⟩
     rw [sizes] at d3
     exact a3.2 ⟨d1 x (by simp), d2 x (by simp), by omega⟩
  rw [chk_eq, all_iff]
  by_cases h1 : s = 4096
  ·rw [if_pos h1]
   have := size_eq e
   refine ⟨⟨Nat.le_refl _, hs⟩, ⟨fun h => by simp at h, fun h => by omega⟩, fun h => by simp at h⟩
  ·rw [if_neg h1]
   by_cases h2 : 250 ≤ d
   ·rw [if_pos h2]
    have := deep_eq e
    refine ⟨⟨by simp, by simp; omega⟩, ⟨fun h => by simp at h, fun h => by omega⟩, fun h => by simp at h⟩
   ·rw [if_neg h2]
    by_cases h3 : F e = true
    ·rw [if_pos h3]
     obtain ⟨⟨b1, b2⟩, b3, b4⟩ := hl e.kids (d + 1) (s + 1) (fun x hx => by have := deep_mem _ x hx; omega) (by omega)
     have hs2 := size_eq e
     have hd2 := deep_eq e
     refine ⟨⟨by omega, b2⟩, ?_, fun h => by rw [b4 h]; omega⟩
     rw [b3]
     simp only [h3, true_and]
     constructor
     ·rintro ⟨d1, d2, d3⟩
      refine ⟨d1, ?_, by omega⟩
      have := deeps_le (l := e.kids) (n := 250 - (d + 1)) fun x hx => by have := d2 x hx; omega
      omega
     ·rintro ⟨d1, d2, d3⟩
      refine ⟨d1, fun x hx => ?_, by omega⟩
      have := deep_mem _ x hx
      omega
    ·rw [if_neg h3]
     refine ⟨⟨by simp, by simp; omega⟩, ⟨fun h => by simp at h, fun h => absurd h.1.1 h3⟩, fun h => by simp at h⟩
def ok (e : Ex) : Bool := all form e && decide (e.deep ≤ 250) && decide (e.size ≤ 4096)
theorem ok_iff (e : Ex) : ok e = true ↔ all form e = true ∧ e.deep ≤ 250 ∧ e.size ≤ 4096 := by
 unfold ok
 simp only [Bool.and_eq_true, decide_eq_true_eq, and_assoc]
theorem chk_form (e : Ex) : (chk form e 0 0).2 = 0 ↔ ok e = true := by
 rw [ok_iff, (chk_ok form _ e (Nat.le_refl _) 0 0 (by omega)).2.1]
 simp
end Ex
namespace Ex
def letE (ns : List ByteArray) (ins : List Ex) (b : Ex) : Ex := if ns.isEmpty then b else mk 8 ⟨#[]⟩ ns Dt.zero (ins ++ [b])
theorem form_ties {e : Ex} (h : form e = true) (hk : e.kind = 9 ∨ e.kind = 10) : e.kids.length = e.names.length + 1 ∧ namesB e.names = true ∧ e.name = ⟨#[]⟩ ∧ Dt.same e.const Dt.zero = true ∧ (e.kind = 10 → 1 ≤ e.names.length ∧ ∀ x ∈ e.kids.take e.names.length, x.kind = 5) := by
 unfold form at h
 rcases hk with hk | hk
 ·simp [hk] at h
  exact ⟨h.2.2, h.1.2, h.2.1, h.1.1, fun h => by omega⟩
 ·simp [hk] at h
  exact ⟨h.2.1.2, h.1.2, h.2.1.1.1, h.1.1, fun _ => ⟨h.2.1.1.2, h.2.2⟩⟩
theorem namesB_iff (l : List ByteArray) : namesB l = true ↔ (∀ s ∈ l, Nm.nameB s = true) ∧ l.Nodup := by
 unfold namesB
 rw [Bool.and_eq_true, List.all_eq_true, decide_eq_true_eq]
theorem namesB_sub {l m : List ByteArray} (hs : List.Sublist m l) (h : namesB l = true) : namesB m = true := by
 rw [namesB_iff] at h ⊢
 exact ⟨fun s hm => h.1 s (hs.subset hm), hs.nodup h.2⟩
theorem zero_same : Dt.same Dt.zero Dt.zero = true := by decide
theorem all_mk (F : Ex → Bool) (k : Int) (n : ByteArray) (ns : List ByteArray) (c : Dt) (ks : List Ex) : all F (mk k n ns c ks) = true ↔ F (mk k n ns c ks) = true ∧ ∀ x ∈ ks, all F x = true := all_iff F _
theorem namesB_nil : namesB [] = true := by decide
theorem form_let {ns : List ByteArray} {ins : List Ex} {b : Ex} (hn : namesB ns = true) (hlen : ins.length = ns.length) (hl : ∀ x ∈ ins, all form x = true) (hb : all form b = true) : all form (letE ns ins b) = true := by
 unfold letE
 split
 ·exact hb
 ·rw [all_mk]
  refine ⟨by simp [form, kind_mk, names_mk, kids_mk, const_mk, name_mk, zero_same, hn, hlen], fun x hx => ?_⟩
  rcases List.mem_append.1 hx with h | h
  ·exact hl x h
  ·rw [List.mem_singleton.1 h]; exact hb
theorem has_mk (q : Int) (k : Int) (n : ByteArray) (ns : List ByteArray) (c : Dt) (ks : List Ex) : has q (mk k n ns c ks) = true ↔ k = q ∨ ∃ x ∈ ks, has q x = true := has_iff q _
end Ex
end Go.Proofs.YtkplkgdfphbldaaGreat
