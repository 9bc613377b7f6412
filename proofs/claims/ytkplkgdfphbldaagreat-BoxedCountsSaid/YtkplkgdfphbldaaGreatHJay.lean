/- Variables that change, plainly (chapter 11): boxE. -/
import Derived.Test.YtkplkgdfphbldaaGreatHJax
import Derived.Test.YtkplkgdfphbldaaGreatHJak
namespace Go.Proofs.YtkplkgdfphbldaaGreat
open Go.RowKit
open Go.Lib (hid)
set_option linter.unusedVariables false
set_option linter.unusedSimpArgs false
set_option linter.unnecessarySimpa false
set_option maxRecDepth 100000
namespace Ex
def primE (s : ByteArray) (l : List Ex) : Ex := mk 7 s [] Dt.zero l
def refE (s : ByteArray) : Ex := mk 1 s [] Dt.zero []
def sBox : ByteArray := ⟨#[37, 98, 111, 120]⟩
def sUnbox : ByteArray := ⟨#[37, 117, 110, 98, 111, 120]⟩
def sSetBox : ByteArray := ⟨#[37, 115, 101, 116, 45, 98, 111, 120, 33]⟩
def innerB (e : Ex) (B : ByteArray → Bool) (s : ByteArray) : Bool := if inN e.names s then assigned e s else B s
def boxIns (B : ByteArray → Bool) : List ByteArray → List Ex → List Ex
 | [], l => l
 | _, [] => []
 | n :: ns, x :: l => (if B n then primE sBox [x] else x) :: boxIns B ns l
def boxK (B B' : ByteArray → Bool) (k : Int) (n : ByteArray) (ns : List ByteArray) (c : Dt) (os : List Ex) : Ex :=
 if k = 1 then (if B n then primE sUnbox [mk k n ns c os] else mk k n ns c os)
 else if k = 2 then primE sSetBox [refE n, os.headD zero]
 else if k = 8 then mk k n ns c (boxIns B' ns os)
 else if k = 5 then mk k n ns c (letE (ns.filter B') ((ns.filter B').map fun s => primE sBox [refE s]) (os.headD zero) :: os.tail)
 else mk k n ns c os
mutual
def boxE (B : ByteArray → Bool) : Ex → Ex
 | mk k n ns c ks => boxK B (innerB (mk k n ns c ks) B) k n ns c (boxL B (innerB (mk k n ns c ks) B) k ks.length 0 ks)
def boxL (B B' : ByteArray → Bool) (k : Int) (N : Nat) : Nat → List Ex → List Ex
 | _, [] => []
 | i, x :: l => boxE (if binds k N i then B' else B) x :: boxL B B' k N (i + 1) l
end
theorem boxL_length (B B' : ByteArray → Bool) (k : Int) (N : Nat) : ∀ (i : Nat) (l : List Ex), (boxL B B' k N i l).length = l.length
 | _, [] => by rw [boxL]
 | i, x :: l => by rw [boxL, List.length_cons, boxL_length B B' k N (i + 1) l, List.length_cons]
theorem boxL_at (B B' : ByteArray → Bool) (k : Int) (N : Nat) : ∀ (i j : Nat) (l : List Ex), (boxL B B' k N i l)[j]? = l[j]?.map fun x => boxE (if binds k N (i + j) then B' else B) x
 | _, _, [] => by rw [boxL]; simp
 | i, 0, x :: l => by rw [boxL]; simp
 | i, j + 1, x :: l => by rw [boxL, List.getElem?_cons_succ, List.getElem?_cons_succ, boxL_at B B' k N (i + 1) j l, show i + 1 + j = i + (j + 1) by omega]
theorem boxL_mem {B B' : ByteArray → Bool} {k : Int} {N i : Nat} {l : List Ex} {y : Ex} (h : y ∈ boxL B B' k N i l) : ∃ (x : Ex) (C : ByteArray → Bool), x ∈ l ∧ (C = B ∨ C = B') ∧ y = boxE C x := by
 obtain ⟨j, hj⟩ := List.mem_iff_getElem?.1 h
 rw [boxL_at] at hj
 cases hx : l[j]? with
 | none => rw [hx] at hj; simp at hj
 | some x =>
  rw [hx] at hj
  simp only [Option.map_some, Option.some.injEq] at hj
  refine ⟨x, _, List.mem_of_getElem? hx, ?_, hj.symm⟩
  split
  ·exact .inr rfl
  ·exact .inl rfl
theorem boxE_eq (B : ByteArray → Bool) (e : Ex) : boxE B e = boxK B (innerB e B) e.kind e.name e.names e.const (boxL B (innerB e B) e.kind e.kids.length 0 e.kids) := by
 cases e with
 | mk k n ns c ks => rw [boxE]; rfl
theorem has_prim (q : Int) (hq : q ≠ 7) (s : ByteArray) (l : List Ex) : has q (primE s l) = true ↔ ∃ x ∈ l, has q x = true := by
 unfold primE
 rw [has_mk]
 constructor
 ·rintro (h | h)
  ·exact absurd h.symm hq
  ·exact h
 ·exact .inr
theorem has_ref (q : Int) (hq : q ≠ 1) (s : ByteArray) : has q (refE s) = false := by
 cases h : has q (refE s)
 ·rfl
 ·unfold refE at h
  rw [has_mk] at h
  rcases h with h | ⟨x, hx, _⟩
  ·exact absurd h.symm hq
  ·simp at hx
theorem boxIns_mem {B : ByteArray → Bool} : ∀ {ns : List ByteArray} {l : List Ex} {y : Ex}, y ∈ boxIns B ns l → ∃ x ∈ l, y = x ∨ y = primE sBox [x]
 | [], l, y, h => ⟨y, by rwa [boxIns] at h, .inl rfl⟩
 | n :: ns, [], y, h => by rw [boxIns] at h; simp at h; simp
 | n :: ns, x :: l, y, h => by
  rw [boxIns] at h
  rcases List.mem_cons.1 h with h | h
  ·refine ⟨x, by simp, ?_⟩
   rw [h]
   split
   ·exact .inr rfl
   ·exact .inl rfl
  ·obtain ⟨z, hz, e⟩ := boxIns_mem h
   exact ⟨z, by simp [hz], e⟩
theorem has_zero (q : Int) (hq : q ≠ 0) : has q zero = false := by
 cases h : has q zero
 ·rfl
 ·unfold zero at h
  rw [has_mk] at h
  rcases h with h | ⟨x, hx, _⟩
  ·exact absurd h.symm hq
  ·simp at hx
theorem has_let (q : Int) (hq : q ≠ 8) (ns : List ByteArray) (ins : List Ex) (b : Ex) (h : has q (letE ns ins b) = true) : has q b = true ∨ ∃ x ∈ ins, has q x = true := by
 unfold letE at h
 split at h
 ·exact .inl h
 ·rw [has_mk] at h
  rcases h with h | ⟨x, hx, h⟩
  ·exact absurd h.symm hq
  ·rcases List.mem_append.1 hx with hx | hx
   ·exact .inr ⟨x, hx, h⟩
   ·rw [List.mem_singleton.1 hx] at h
    exact .inl h
theorem has_boxE (q : Int) (h0 : q ≠ 0) (h1 : q ≠ 1) (h7 : q ≠ 7) (h8 : q ≠ 8) (e : Ex) : ∀ B, has q (boxE B e) = true → q ≠ 2 ∧ has q e = true := by
 induction e using byKids with
 | _ e ih =>
 intro B h
 have hL : ∀ y, y ∈ boxL B (innerB e B) e.kind e.kids.length 0 e.kids → has q y = true → q ≠ 2 ∧ has q e = true := by
  intro y hy hq
  obtain ⟨x, C, hx, _, rfl⟩ := boxL_mem hy
  obtain ⟨a, b⟩ := ih x hx C hq
  exact ⟨a, (has_iff q e).2 (.inr ⟨x, hx, b⟩)⟩
 rw [boxE_eq] at h
 unfold boxK at h
 generalize hos : boxL B (innerB e B) e.kind e.kids.length 0 e.kids = os at *
 have hhd : has q (os.headD zero) = true → q ≠ 2 ∧ has q e = true := by
  intro hq
  cases os with
  | nil =>
   have := has_zero q h0
   simp at hq
   rw [this] at hq
   cases hq
  | cons y l => exact hL y (by simp) hq
 have hself : has q (mk e.kind e.name e.names e.const os) = true → e.kind ≠ 2 → q ≠ 2 ∧ has q e = true := by
  intro hq hk
  rw [has_mk] at hq
  rcases hq with hq | ⟨y, hy, hq⟩
  ·exact ⟨fun e => hk (hq.trans e), (has_iff q e).2 (.inl hq)⟩
  ·exact hL y hy hq
 split at h
 ·rename_i k1
  split at h
  ·rw [has_prim q h7] at h
   obtain ⟨x, hx, h⟩ := h
   rw [List.mem_singleton.1 hx] at h
   exact hself h (by omega)
  ·exact hself h (by omega)
 ·split at h
  ·rw [has_prim q h7] at h
   obtain ⟨x, hx, h⟩ := h
   rcases List.mem_cons.1 hx with hx | hx
   ·rw [hx, has_ref q h1] at h
    cases h
   ·rw [List.mem_singleton.1 hx] at h
    exact hhd h
  ·rename_i k2
   split at h
   ·rename_i k8
    rw [has_mk] at h
    rcases h with h | ⟨y, hy, h⟩
    ·exact absurd (h.symm.trans k8) h8
    ·obtain ⟨x, hx, e1 | e1⟩ := boxIns_mem hy
     ·rw [e1] at h
      exact hL x hx h
     ·rw [e1, has_prim q h7] at h
      obtain ⟨z, hz, h⟩ := h
      rw [List.mem_singleton.1 hz] at h
      exact hL x hx h
   ·split at h
    ·rename_i k5
     rw [has_mk] at h
     rcases h with h | ⟨y, hy, h⟩
     ·exact ⟨by omega, (has_iff q e).2 (.inl h)⟩
     ·rcases List.mem_cons.1 hy with hy | hy
      ·rw [hy] at h
       rcases has_let q h8 _ _ _ h with h | ⟨x, hx, h⟩
       ·exact hhd h
       ·obtain ⟨s, _, rfl⟩ := List.mem_map.1 hx
        rw [has_prim q h7] at h
        obtain ⟨z, hz, h⟩ := h
        rw [List.mem_singleton.1 hz, has_ref q h1] at h
        cases h
      ·exact hL y (List.mem_of_mem_tail hy) h
    ·exact hself h k2
theorem noset_boxE (B : ByteArray → Bool) (e : Ex) : has 2 (boxE B e) = false := by
 cases h : has 2 (boxE B e)
 ·rfl
 ·exact absurd rfl (has_boxE 2 (by decide) (by decide) (by decide) (by decide) e B h).1
def noB : ByteArray → Bool := fun _ => false
theorem form_lam {e : Ex} (h : form e = true) (hk : e.kind = 5) : e.kids.length = 1 := by
 unfold form at h
 simp [hk] at h
 exact h.2.2
theorem boxIns_length (B : ByteArray → Bool) : ∀ (ns : List ByteArray) (l : List Ex), (boxIns B ns l).length = l.length
 | [], l => by rw [boxIns]
 | n :: ns, [] => by rw [boxIns]; simp
 | n :: ns, x :: l => by rw [boxIns, List.length_cons, boxIns_length B ns l, List.length_cons]
theorem form_prim {s : ByteArray} {l : List Ex} (ha : arity s = l.length) (hl : ∀ x ∈ l, all form x = true) : all form (primE s l) = true := by
 unfold primE
 rw [all_mk]
 exact ⟨by simp [form, kind_mk, names_mk, kids_mk, const_mk, name_mk, zero_same, namesB_nil, ha], hl⟩
theorem form_ref {n : ByteArray} (hn : Nm.nameB n = true) : all form (refE n) = true := by
 unfold refE
 rw [all_mk]
 exact ⟨by simp [form, kind_mk, names_mk, kids_mk, const_mk, name_mk, zero_same, namesB_nil, hn], by simp⟩
theorem arity_box : arity sBox = 1 := by decide
theorem arity_unbox : arity sUnbox = 1 := by decide
theorem arity_setbox : arity sSetBox = 2 := by decide
theorem form_kids {e : Ex} (h : form e = true) {os : List Ex} (hl : os.length = e.kids.length) (h10 : e.kind = 10 → ∀ x ∈ os.take e.names.length, x.kind = 5) : form (mk e.kind e.name e.names e.const os) = true := by
 have hE : os.isEmpty = e.kids.isEmpty := by
  rw [Bool.eq_iff_iff, List.isEmpty_iff_length_eq_zero, List.isEmpty_iff_length_eq_zero, hl]
 have hf := h
 unfold form at hf ⊢
 simp only [kind_mk, name_mk, names_mk, const_mk, kids_mk, hl, hE] at hf ⊢
 by_cases hk : e.kind = 10
 ·simp only [hk, if_true, if_false, Int.reduceEq, Bool.and_eq_true, decide_eq_true_eq, List.all_eq_true] at hf ⊢
  exact ⟨hf.1, ⟨⟨decide_eq_true hf.2.1.1.1, decide_eq_true hf.2.1.1.2⟩, hf.2.1.2⟩, h10 hk⟩
 ·rw [if_neg (show ¬ e.kind = 10 from hk)] at hf ⊢
  exact hf
theorem box_lam {x : Ex} (h : x.kind = 5) (B : ByteArray → Bool) : (boxE B x).kind = 5 := by
 rw [boxE_eq]
 unfold boxK
 rw [if_neg (by omega), if_neg (by omega), if_neg (by omega), if_pos h]
 exact h
theorem form_boxE (e : Ex) : ∀ B, all form e = true → all form (boxE B e) = true := by
 induction e using byKids with
 | _ e ih =>
 intro B h
 rw [all_iff] at h
 have hL : ∀ y ∈ boxL B (innerB e B) e.kind e.kids.length 0 e.kids, all form y = true := fun y hy => by
  obtain ⟨x, C, hx, _, rfl⟩ := boxL_mem hy
  exact ih x hx C (h.2 x hx)
 have hlen := boxL_length B (innerB e B) e.kind e.kids.length 0 e.kids
 have h10 : e.kind = 10 → ∀ x ∈ (boxL B (innerB e B) e.kind e.kids.length 0 e.kids).take e.names.length, x.kind = 5 := fun hk y hy => by
  obtain ⟨j, hj⟩ := List.mem_iff_getElem?.1 hy
  have hjl : j < e.names.length := by
   have := (List.getElem?_eq_some_iff.1 hj).1
   rw [List.length_take] at this
   omega
  rw [List.getElem?_take_of_lt hjl, boxL_at] at hj
  cases hx : e.kids[j]? with
  | none => rw [hx] at hj; simp at hj
  | some x =>
   rw [hx] at hj
   simp only [Option.map_some, Option.some.injEq] at hj
   rw [← hj]
   refine box_lam ((form_ties h.1 (.inr hk)).2.2.2.2 hk |>.2 x ?_) _
   exact List.mem_iff_getElem?.2 ⟨j, by rw [List.getElem?_take_of_lt hjl]; exact hx⟩
 rw [boxE_eq]
 generalize boxL B (innerB e B) e.kind e.kids.length 0 e.kids = os at *
 have hself : all form (mk e.kind e.name e.names e.const os) = true := by
  rw [all_mk]
  exact ⟨form_kids h.1 hlen h10, hL⟩
 unfold boxK
 split
 ·split
  ·exact form_prim (by rw [arity_unbox]; rfl) (fun x hx => by rw [List.mem_singleton.1 hx]; exact hself)
  ·exact hself
 ·split
  ·rename_i k2
   have hf := h.1
   unfold form at hf
   simp [k2] at hf
   obtain ⟨y, rfl⟩ : ∃ y, os = [y] := List.length_eq_one_iff.1 (by rw [hlen]; exact hf.2.2)
   refine form_prim (by rw [arity_setbox]; rfl) (fun x hx => ?_)
   rcases List.mem_cons.1 hx with hx | hx
   ·rw [hx]
    exact form_ref hf.2.1.1
   ·rw [List.mem_singleton.1 hx]
    exact hL y (by simp)
  ·split
   ·rename_i k8
    rw [all_mk]
    refine ⟨form_kids h.1 (by rw [boxIns_length]; exact hlen) (fun hk => by omega), fun y hy => ?_⟩
    obtain ⟨x, hx, e1 | e1⟩ := boxIns_mem hy
    ·rw [e1]
     exact hL x hx
    ·rw [e1]
     exact form_prim (by rw [arity_box]; rfl) (fun z hz => by rw [List.mem_singleton.1 hz]; exact hL x hx)
   ·split
    ·rename_i k5
     have hl1 := form_lam h.1 k5
     have hf := h.1
     unfold form at hf
     simp [k5] at hf
     have hns := hf.1.2
     obtain ⟨y, rfl⟩ : ∃ y, os = [y] := List.length_eq_one_iff.1 (by rw [hlen]; exact hl1)
     rw [all_mk]
     refine ⟨form_kids h.1 (by simp [hl1]) (fun hk => by omega), fun z hz => ?_⟩
     have hz' := List.mem_singleton.1 hz
     rw [hz']
     refine form_let (namesB_sub (List.filter_sublist) hns) (by simp) (fun x hx => ?_) (hL y (by simp))
     obtain ⟨t, ht, rfl⟩ := List.mem_map.1 hx
     exact form_prim (by rw [arity_box]; rfl) (fun z hz => by rw [List.mem_singleton.1 hz]; exact form_ref (((namesB_iff _).1 hns).1 t (List.mem_filter.1 ht).1))
    ·exact hself
end Ex
def RkPost (r : Nat × Int) (w : World) (e : Ending) (w' : World) : Prop := e = .returned (.tuple #[.int .i64 r.1, .int .i64 r.2]) ∧ Below w.heap.size w w'
set_option maxHeartbeats 8000000 in
set_option maxRecDepth 100000 in
theorem rchk_step (k i : Int) (t : ByteArray) (l : List Dt) (deep seen : Nat) (v : Value) (w : World) (hdp : deep ≤ 32) (hsn : seen ≤ 4096) (hd : DtAt w (fun _ => True) v (.mk k i t l)) (hf : Dt.Fit (.mk k i t l))
  (IH : ∀ x ∈ l, ∀ (vx : Value) (w1 : World) (deep' seen' : Nat), deep' ≤ 32 → seen' ≤ 4096 → DtAt w1 (fun _ => True) vx x → Calls Tryz.prog 89 #[vx, .int .i64 deep', .int .i64 seen'] w1 (RkPost (Dt.chk x deep' seen') w1)) :
  Calls Tryz.prog 89 #[v, .int .i64 deep, .int .i64 seen] w (RkPost (Dt.chk (.mk k i t l) deep seen) w) := by
 obtain ⟨a, c, rfl, _⟩ := hd.inv
 simp only [Dt.kind_mk, Dt.int_mk, Dt.text_mk, Dt.list_mk] at hd ⊢
 obtain ⟨ht, hl⟩ : t.size ≤ maxLen ∧ l.length ≤ 9223372036854775807 := by cases hf; exact ⟨by assumption, by assumption⟩
 rw [Dt.chk]
 by_cases h0 : seen = 4096
 ·subst h0
  rw [if_pos rfl]
  clear hd hf IH ht hl
  go_enter Tryz.func89, Tryz.ntmps89
  go_wp2_with fail
  go_ret2
  exact ⟨rfl, (Below.refl _ _).alloc (Nat.le_refl _) _⟩
 ·rw [if_neg h0]
  have g1 : ((seen : Int) == 4096) = false := beq_eq_false_iff_ne.2 (by omega)
  have g2 : (seen : Int) ≤ 4096 := by omega
  have g3 : (0 : Int) ≤ seen := by omega
  have HB1 := hid ((Below.refl w.heap.size w).alloc (Nat.le_refl _) (.cells #[.int .i64 k, .int .i64 i, .string t, .slice a l.length c] 25))
  have HX1 := hid (show Cell4 w.heap.size _ _ _ _ _ from new4 w (.int .i64 k) (.int .i64 i) (.string t) (.slice a l.length c) 25)
  have HD := hid hd
  have HF : Hid (∀ w1 : World, Below w.heap.size w w1 → Calls Tryz.prog 109 #[.agg #[.int .i64 k, .int .i64 i, .string t, .slice a l.length c]] w1 (FormPost (Dt.formB k i t l) w1)) := fun w1 h1 => rform_any k i t ht a l hl c w1 (hd.bel h1 (Nat.le_refl _))
  have HI : Hid (∀ w1 : World, Calls Tryz.prog 108 #[.agg #[.int .i64 k, .int .i64 i, .string t, .slice a l.length c]] w1 fun e w' => e = .returned (.bool (decide (5 ≤ k) && decide (k ≤ 7))) ∧ Below w1.heap.size w1 w') := fun w1 => ritems_any k i t a l.length c w1
  have HIH := hid IH
  have HN : Hid (seen ≠ 4096) := h0
  have HSN := hid hsn
  unfold FormPost at HF
  clear hd hf IH ht hl h0 hsn
  generalize hit : (decide (5 ≤ k) && decide (k ≤ 7)) = it at *
  by_cases h1 : (it && decide (deep = 32)) = true
  ·rw [if_pos h1]
   rw [Bool.and_eq_true, decide_eq_true_eq] at h1
   obtain ⟨rfl, rfl⟩ := h1
   clear hit
   go_enter Tryz.func89, Tryz.ntmps89
   go_wp2_with fail
   with_reducible refine (HI.out _).mono ?_
   rintro e w2 ⟨rfl, hb2⟩
   have HB2 := hid (HB1.out.trans (hb2.mono HB1.out.size))
   clear hb2
   go_wp2_with fail
   go_ret2
   exact ⟨rfl, HB2.out⟩
  ·rw [if_neg h1]
   have hor : it = false ∨ (it = true ∧ ((deep : Int) == 32) = false ∧ deep < 32) := by
    cases it with
    | false => exact .inl rfl
    | true =>
     have h2 : ¬ deep = 32 := by simpa using h1
     exact .inr ⟨rfl, beq_eq_false_iff_ne.2 (by omega), by omega⟩
   have HOR := hid hor
   have HIT := hid hit
   clear h1 hit hor
   cases hfb : Dt.formB k i t l with
   | false =>
    rw [hfb] at HF
    clear hfb
    rcases HOR.out with rfl | ⟨rfl, v1, _⟩
    all_goals
     go_enter Tryz.func89, Tryz.ntmps89
     go_wp2_with fail
     with_reducible refine (HI.out _).mono ?_
     rintro e w2 ⟨rfl, hb2⟩
     have HB2 := hid (HB1.out.trans (hb2.mono HB1.out.size))
     obtain ⟨q0, q1, q2, q3⟩ := HX1.out.below hb2 (by simp)
     clear hb2
     go_wp2_with fail
     with_reducible refine (HF.out _ HB2.out).mono ?_
     rintro e w3 ⟨rfl, hb3⟩
     have HB3 := hid (HB2.out.trans (hb3.mono HB2.out.size))
     clear hb3
     go_wp2_with fail
     go_ret2
     exact ⟨rfl, HB3.out⟩
   | true =>
    have HL : Hid (l ≠ [] → deep < 32) := fun hne => by
     rcases HOR.out with e | ⟨_, _, h⟩
     ·have := Dt.form_items hfb hne
      rw [HIT.out, e] at this
      cases this
     ·exact h
    rw [hfb] at HF
    clear hfb
    rw [if_pos rfl]
    rcases HOR.out with rfl | ⟨rfl, v1, _⟩
    all_goals
     go_enter Tryz.func89, Tryz.ntmps89
     go_wp2_with fail
     with_reducible refine (HI.out _).mono ?_
     rintro e w2 ⟨rfl, hb2⟩
     have HB2 := hid (HB1.out.trans (hb2.mono HB1.out.size))
     have HX2 := hid (HX1.out.below hb2 (by simp))
     obtain ⟨q0, q1, q2, q3⟩ := HX2.out
     have hs2 : w.heap.size < w2.heap.size := by have := hb2.size; simp at this; omega
     clear hb2
     go_wp2_with fail
     with_reducible refine (HF.out _ HB2.out).mono ?_
     rintro e w3 ⟨rfl, hb3⟩
     have HB3 := hid (HB2.out.trans (hb3.mono HB2.out.size))
     have HX3 := hid (HX2.out.below hb3 hs2)
     have hs3 : w.heap.size < w3.heap.size := Nat.lt_of_lt_of_le hs2 hb3.size
     clear hb3 q0 q1 q2 q3
     go_wp2_with fail
     go_loopg [2, 8, 9] l.length (fun gk s2 s8 s9 wx => ∃ (n sk : Nat), n ≤ l.length ∧ gk = l.length - n ∧ s9 = .int .i64 n ∧ s8 = .int .i64 0 ∧ s2 = .int .i64 sk ∧ Hid (Below w.heap.size w wx ∧ Cell4 w.heap.size (.int .i64 k) (.int .i64 i) (.string t) (.slice a l.length c) wx ∧ w.heap.size < wx.heap.size) ∧ Hid (Dt.chks (l.take n) (deep + 1) (seen + 1) = (sk, 0)))
     case atStart => exact ⟨0, seen + 1, Nat.zero_le _, rfl, rfl, rfl, by go_num, ⟨HB3.out, HX3.out, hs3⟩, rfl⟩
     case round =>
      obtain ⟨n, sk, hn, rfl, rfl, rfl, rfl, HKR, HT⟩ := hrel
      obtain ⟨q0, q1, q2, q3⟩ := HKR.out.2.1
      by_cases hlt2 : n < l.length
      ·obtain ⟨x, hx⟩ : ∃ x, l[n]? = some x := ⟨_, List.getElem?_eq_getElem hlt2⟩
       have hsk := Dt.chks_le (l.take n) (deep + 1) (seen + 1) (by have := HSN.out; have := HN.out; omega)
       rw [HT.out] at hsk
       obtain ⟨hsk1, hsk2, hsk3⟩ := hsk
       have hnk : n ≤ sk := by
        have h4 := hsk3 rfl
        have h5 := Dt.nodess_len (l.take n)
        simp [Nat.min_eq_left hn] at h5
        omega
       have hdp2 : deep + 1 ≤ 32 := by have := HL.out (fun e => by rw [e] at hx; simp at hx); omega
       obtain ⟨ad, cd, hv, h0 | ⟨b1, o1, ha1, hb1, _, hat⟩⟩ := (HD.out.bel HKR.out.1 (Nat.le_refl _)).inv
       ·simp only [Dt.list_mk] at h0
        rw [h0.2.2] at hx; simp at hx
       simp only [Dt.kind_mk, Dt.int_mk, Dt.text_mk, Dt.list_mk] at hv hat
       obtain rfl : a = ad := by simpa using (by simpa using hv : a = ad ∧ c = cd).1
       subst ha1
       obtain ⟨lx, d0, d1, d2, d3, hdx⟩ := hat n x hx
       obtain ⟨ax, cx, rfl⟩ := hdx.slice
       have hg1 : (0 : Int) ≤ n := by omega
       have hg2 : (n : Int) < l.length := by omega
       have hgw : IntKind.i64.wrap ((n : Int) + 1) = n + 1 := by rw [IntKind.wrap_i64]; omega
       have hgd : IntKind.i64.wrap ((deep : Int) + 1) = deep + 1 := by rw [IntKind.wrap_i64]; omega
       have hcall := HIH.out x (List.mem_of_getElem? hx) _ _ (deep + 1) sk hdp2 hsk2 hdx
       have HCALL : Hid (Calls Tryz.prog 89 #[.agg #[.int .i64 x.kind, .int .i64 x.int, .string x.text, .slice ax x.list.length cx], .int .i64 ((deep : Int) + 1), .int .i64 sk] wr (RkPost (Dt.chk x (deep + 1) sk) wr)) := hcall
       have HX := hid hx
       clear hat hdx hcall hx hv hsk1 hsk2 hsk3
       by_cases hz : (Dt.chk x (deep + 1) sk).2 = 0
       ·have HZ := hid hz
        have HT2 := hid (Dt.chks_step HX.out HT.out hz)
        generalize Dt.chk x (deep + 1) sk = rr at *
        obtain ⟨r1, r2⟩ := rr
        dsimp only at *
        subst hz
        go_wp2_with fail
        with_reducible refine (HCALL.out).mono ?_
        rintro e w5 ⟨rfl, hb5⟩
        have HK5 : Hid (Below w.heap.size w w5 ∧ Cell4 w.heap.size (.int .i64 k) (.int .i64 i) (.string t) (.slice (some ⟨b1, o1, none⟩) l.length c) w5 ∧ w.heap.size < w5.heap.size) := ⟨HKR.out.1.trans (hb5.mono HKR.out.1.size), HKR.out.2.1.below hb5 HKR.out.2.2, Nat.lt_of_lt_of_le HKR.out.2.2 hb5.size⟩
        clear hb5
        go_wp2_with fail
        go_roundg (l.length - (n + 1))
        case measure => omega
        case rel => exact ⟨n + 1, _, by omega, rfl, by go_num, rfl, rfl, HK5.out, HT2.out⟩
       ·have HT2 := hid (Dt.chks_stop HX.out HT.out hz)
        generalize Dt.chk x (deep + 1) sk = rr at *
        obtain ⟨r1, r2⟩ := rr
        dsimp only at *
        have z1 : (r2 != 0) = true := by simpa using hz
        clear hz
        go_wp2_with fail
        with_reducible refine (HCALL.out).mono ?_
        rintro e w5 ⟨rfl, hb5⟩
        have HB5 := hid (HKR.out.1.trans (hb5.mono HKR.out.1.size))
        clear hb5
        go_wp2_with fail
        go_ret2
        rw [HT2.out]
        exact ⟨rfl, HB5.out⟩
      ·obtain rfl : l.length = n := by omega
       go_wp2_with fail
       go_ret2
       have hT := HT.out
       rw [List.take_length] at hT
       rw [hT]
       exact ⟨rfl, HKR.out.1⟩
theorem rchk_n : ∀ (n : Nat) (d : Dt) (v : Value) (deep seen : Nat) (w : World), d.depth ≤ n → deep ≤ 32 → seen ≤ 4096 → DtAt w (fun _ => True) v d → Dt.Fit d → Calls Tryz.prog 89 #[v, .int .i64 deep, .int .i64 seen] w (RkPost (Dt.chk d deep seen) w)
 | 0, d, v, deep, seen, w, hn, _, _, _, _ => by
  rw [Dt.depth_list] at hn
  omega
 | n + 1, d, v, deep, seen, w, hn, h1, h2, h3, h4 => by
  rw [Dt.depth_list] at hn
  obtain ⟨k, i, t, l⟩ := d
  refine rchk_step k i t l deep seen v w h1 h2 h3 h4 fun x hx vx w1 deep' seen' g1 g2 g3 => rchk_n n x vx deep' seen' w1 ?_ g1 g2 g3 (h4.of hx)
  have := Dt.depth_mem _ x hx
  simp only [Dt.list_mk] at hn
  omega
theorem rcheck_any (d : Dt) (v : Value) (w : World) (hd : DtAt w (fun _ => True) v d) (hf : Dt.Fit d) : Calls Tryz.prog 68 #[v] w fun e w' => e = .returned (.int .i64 d.chkE) ∧ Below w.heap.size w w' := by
 have HC : Hid (∀ (w1 : World), Below w.heap.size w w1 → Calls Tryz.prog 89 #[v, .int .i64 0, .int .i64 0] w1 (RkPost (Dt.chk d 0 0) w1)) := fun w1 h2 => rchk_n d.depth d v 0 0 w1 (Nat.le_refl _) (by omega) (by omega) (hd.bel h2 (Nat.le_refl _)) hf
 obtain ⟨a, c, rfl, _⟩ := hd.inv
 unfold Dt.chkE
 clear hd hf
 go_enter Tryz.func68, Tryz.ntmps68
 go_wp2_with fail
 with_reducible refine (HC.out _ ((Below.refl _ _).alloc (Nat.le_refl _) _)).mono ?_
 rintro e w2 ⟨rfl, hb⟩
 have HB := hid hb
 clear hb
 go_wp2_with fail
 go_ret
 exact ⟨rfl, ((Below.refl _ _).alloc (Nat.le_refl _) _).trans (HB.out.mono (by simp))⟩
namespace Hp
def sizeOk (kind : Int) (l : List V) : Bool := if kind = 0 then decide (l.length = 2) else if kind = 3 then decide (l.length = 1) else if kind = 1 then decide (l.length ≤ 1000) else if kind = 2 then decide (l.length ≤ 1000) && !(l.any fun v => decide (v.kind ≠ 2)) else decide (kind = 4)
def makeOk (T : List Th) (kind : Int) (l : List V) : Bool := l.all (may T.length) && sizeOk kind l
end Hp
structure Zer3 (w : World) (g : Nat) : Prop where
 c0 : w.cell? ⟨g, 0, none⟩ = some (.int .i64 0)
 c1 : w.cell? ⟨g, 1, none⟩ = some (.int .i64 0)
 c2 : w.cell? ⟨g, 2, none⟩ = some (.string ⟨#[]⟩)
 f0 : w.frozen? ⟨g, 0, none⟩ = false
 f1 : w.frozen? ⟨g, 1, none⟩ = false
 f2 : w.frozen? ⟨g, 2, none⟩ = false
theorem Zer3.of {w : World} {g : Nat} {t : TypeId} (h : w.heap[g]? = some (.cells #[.int .i64 0, .int .i64 0, .string ⟨#[]⟩] t (0, 0))) : Zer3 w g :=
 ⟨cell_of_row w _ 0 _ _ _ h, cell_of_row w _ 1 _ _ _ h, cell_of_row w _ 2 _ _ _ h, frozen_of_row w _ 0 _ _ h, frozen_of_row w _ 1 _ _ h, frozen_of_row w _ 2 _ _ h⟩
def Hp.makeF (T : List Hp.Th) (kind : Int) (l : List Hp.V) : Hp.V × Int × List Hp.Th := if Hp.makeOk T kind l = true then (⟨8, T.length, ⟨#[]⟩⟩, 0, T ++ [⟨kind, l⟩]) else (Hp.none, 1, T)
def constF (d : Dt) : Hp.V × Bool :=
 if d.chkE ≠ 0 then (Hp.none, false) else if d.kind = 0 then (⟨0, d.int, ⟨#[]⟩⟩, true) else if d.kind = 1 then (⟨1, d.int, ⟨#[]⟩⟩, true) else if d.kind = 2 then (⟨2, d.int, ⟨#[]⟩⟩, true)
 else if d.kind = 4 then (⟨3, 0, d.text⟩, true) else if d.kind = 5 ∧ d.list = [] then (⟨4, 0, ⟨#[]⟩⟩, true) else (Hp.none, false)
def CnPost (r : Hp.V × Bool) (w : World) (e : Ending) (w' : World) : Prop := e = .returned (.tuple #[.agg #[.int .i64 r.1.kind, .int .i64 r.1.int, .string r.1.text], .bool r.2]) ∧ Below w.heap.size w w'
theorem cn_rows {w w3 : World} {a b c d : Value} (hb : Below ((w.alloc (.cells #[a, b, c, d] 25)).alloc (.cells #[.int .i64 0, .int .i64 0, .string ⟨#[]⟩] 78)).heap.size ((w.alloc (.cells #[a, b, c, d] 25)).alloc (.cells #[.int .i64 0, .int .i64 0, .string ⟨#[]⟩] 78)) w3) :
  Below w.heap.size w w3 ∧ Cell4 w.heap.size a b c d w3 ∧ w3.heap[w.heap.size + 1]? = some (.cells #[.int .i64 0, .int .i64 0, .string ⟨#[]⟩] 78 (0, 0)) := by
 refine ⟨(((Below.refl _ _).alloc (Nat.le_refl _) _).alloc (by simp) _).trans (hb.mono (by simp; omega)), ?_, (hb.block _ (by simp)).trans (heap_new (by simp))⟩
 have h := new4 w a b c d 25
 exact (Cell4.same (w := w.alloc (.cells #[a, b, c, d] 25)) h (heap_alloc_old _ _ (by simp))).below hb (by simp; omega)
set_option maxHeartbeats 8000000 in
theorem rconst_any (d : Dt) (v : Value) (w : World) (hd : DtAt w (fun _ => True) v d) (hf : Dt.Fit d) : Calls Tryz.prog 90 #[v] w (CnPost (constF d) w) := by
 have HC : Hid (∀ (w1 : World), Below w.heap.size w w1 → Calls Tryz.prog 68 #[v] w1 fun e w' => e = .returned (.int .i64 d.chkE) ∧ Below w1.heap.size w1 w') := fun w1 hb => rcheck_any d v w1 (hd.bel hb (Nat.le_refl _)) hf
 obtain ⟨a, c, rfl, hnil⟩ := hd.inv
 have hnil2 : d.list = [] ∨ True := .inr trivial
 clear hd hf hnil hnil2
 unfold CnPost
 obtain ⟨k, i, t, l⟩ := d
 simp only [Dt.kind_mk, Dt.int_mk, Dt.text_mk, Dt.list_mk] at *
 by_cases hE : (Dt.mk k i t l).chkE = 0
 ·rw [hE] at HC
  rcases (by omega : k = 0 ∨ k = 1 ∨ k = 2 ∨ k = 4 ∨ k = 5 ∨ (¬ k = 0 ∧ ¬ k = 1 ∧ ¬ k = 2 ∧ ¬ k = 4 ∧ ¬ k = 5)) with rfl | rfl | rfl | rfl | rfl | hk
  ·skip
   have HR : Hid (constF (.mk 0 i t l) = (⟨0, i, ⟨#[]⟩⟩, true)) := hid (by simp [constF, Dt.kind_mk, Dt.int_mk, Dt.text_mk, Dt.list_mk, hE])
   rw [HR.out]
   clear hE
   go_enter Tryz.func90, Tryz.ntmps90
   go_wp2_with fail
   with_reducible refine (HC.out _ ((((Below.refl _ _).alloc (Nat.le_refl _) _).alloc (by simp) _))).mono ?_
   rintro e w3 ⟨rfl, hb3⟩
   obtain ⟨hB3, ⟨q0, q1, q2, q3⟩, hz3⟩ := cn_rows hb3
   obtain ⟨z0, z1, z2, y0, y1, y2⟩ := Zer3.of hz3
   have HB3 := hid hB3
   have HZ3 := hid hz3
   clear hb3 hB3 hz3
   go_wp2_with fail
   refine bodyPost_ret (res2 rfl _ _ (w.heap.size + 1) 78 _ (0, 0) rfl (three_set _ _ _ _ _ _ _ _ _ HZ3.out) valD valSize) rfl ?_
   exact ⟨rfl, ((HB3.out.setCell (p := ⟨w.heap.size + 1, 0, none⟩) (by simp) _).setCell (p := ⟨w.heap.size + 1, 1, none⟩) (by simp) _).setCell (p := ⟨w.heap.size + 1, 2, none⟩) (by simp) _⟩
  ·skip
   have HR : Hid (constF (.mk 1 i t l) = (⟨1, i, ⟨#[]⟩⟩, true)) := hid (by simp [constF, Dt.kind_mk, Dt.int_mk, Dt.text_mk, Dt.list_mk, hE])
   rw [HR.out]
   clear hE
   go_enter Tryz.func90, Tryz.ntmps90
   go_wp2_with fail
   with_reducible refine (HC.out _ ((((Below.refl _ _).alloc (Nat.le_refl _) _).alloc (by simp) _))).mono ?_
   rintro e w3 ⟨rfl, hb3⟩
   obtain ⟨hB3, ⟨q0, q1, q2, q3⟩, hz3⟩ := cn_rows hb3
   obtain ⟨z0, z1, z2, y0, y1, y2⟩ := Zer3.of hz3
   have HB3 := hid hB3
   have HZ3 := hid hz3
   clear hb3 hB3 hz3
   go_wp2_with fail
   refine bodyPost_ret (res2 rfl _ _ (w.heap.size + 1) 78 _ (0, 0) rfl (three_set _ _ _ _ _ _ _ _ _ HZ3.out) valD valSize) rfl ?_
   exact ⟨rfl, ((HB3.out.setCell (p := ⟨w.heap.size + 1, 0, none⟩) (by simp) _).setCell (p := ⟨w.heap.size + 1, 1, none⟩) (by simp) _).setCell (p := ⟨w.heap.size + 1, 2, none⟩) (by simp) _⟩
  ·skip
   have HR : Hid (constF (.mk 2 i t l) = (⟨2, i, ⟨#[]⟩⟩, true)) := hid (by simp [constF, Dt.kind_mk, Dt.int_mk, Dt.text_mk, Dt.list_mk, hE])
   rw [HR.out]
   clear hE
   go_enter Tryz.func90, Tryz.ntmps90
   go_wp2_with fail
   with_reducible refine (HC.out _ ((((Below.refl _ _).alloc (Nat.le_refl _) _).alloc (by simp) _))).mono ?_
   rintro e w3 ⟨rfl, hb3⟩
   obtain ⟨hB3, ⟨q0, q1, q2, q3⟩, hz3⟩ := cn_rows hb3
   obtain ⟨z0, z1, z2, y0, y1, y2⟩ := Zer3.of hz3
   have HB3 := hid hB3
   have HZ3 := hid hz3
   clear hb3 hB3 hz3
   go_wp2_with fail
   refine bodyPost_ret (res2 rfl _ _ (w.heap.size + 1) 78 _ (0, 0) rfl (three_set _ _ _ _ _ _ _ _ _ HZ3.out) valD valSize) rfl ?_
   exact ⟨rfl, ((HB3.out.setCell (p := ⟨w.heap.size + 1, 0, none⟩) (by simp) _).setCell (p := ⟨w.heap.size + 1, 1, none⟩) (by simp) _).setCell (p := ⟨w.heap.size + 1, 2, none⟩) (by simp) _⟩
  ·skip
   have HR : Hid (constF (.mk 4 i t l) = (⟨3, 0, t⟩, true)) := hid (by simp [constF, Dt.kind_mk, Dt.int_mk, Dt.text_mk, Dt.list_mk, hE])
   rw [HR.out]
   clear hE
   go_enter Tryz.func90, Tryz.ntmps90
   go_wp2_with fail
   with_reducible refine (HC.out _ ((((Below.refl _ _).alloc (Nat.le_refl _) _).alloc (by simp) _))).mono ?_
   rintro e w3 ⟨rfl, hb3⟩
   obtain ⟨hB3, ⟨q0, q1, q2, q3⟩, hz3⟩ := cn_rows hb3
   obtain ⟨z0, z1, z2, y0, y1, y2⟩ := Zer3.of hz3
   have HB3 := hid hB3
   have HZ3 := hid hz3
   clear hb3 hB3 hz3
   go_wp2_with fail
   refine bodyPost_ret (res2 rfl _ _ (w.heap.size + 1) 78 _ (0, 0) rfl (three_set _ _ _ _ _ _ _ _ _ HZ3.out) valD valSize) rfl ?_
   exact ⟨rfl, ((HB3.out.setCell (p := ⟨w.heap.size + 1, 0, none⟩) (by simp) _).setCell (p := ⟨w.heap.size + 1, 1, none⟩) (by simp) _).setCell (p := ⟨w.heap.size + 1, 2, none⟩) (by simp) _⟩
  ·by_cases hl : l = []
   ·subst hl
    simp only [List.length_nil] at HC ⊢
    have HR : Hid (constF (.mk 5 i t []) = (⟨4, 0, ⟨#[]⟩⟩, true)) := hid (by simp [constF, Dt.kind_mk, Dt.int_mk, Dt.text_mk, Dt.list_mk, hE])
    rw [HR.out]
    clear hE
    go_enter Tryz.func90, Tryz.ntmps90
    go_wp2_with fail
    with_reducible refine (HC.out _ ((((Below.refl _ _).alloc (Nat.le_refl _) _).alloc (by simp) _))).mono ?_
    rintro e w3 ⟨rfl, hb3⟩
    obtain ⟨hB3, ⟨q0, q1, q2, q3⟩, hz3⟩ := cn_rows hb3
    obtain ⟨z0, z1, z2, y0, y1, y2⟩ := Zer3.of hz3
    have HB3 := hid hB3
    have HZ3 := hid hz3
    clear hb3 hB3 hz3
    go_wp2_with fail
    refine bodyPost_ret (res2 rfl _ _ (w.heap.size + 1) 78 _ (0, 0) rfl (three_set _ _ _ _ _ _ _ _ _ HZ3.out) valD valSize) rfl ?_
    exact ⟨rfl, ((HB3.out.setCell (p := ⟨w.heap.size + 1, 0, none⟩) (by simp) _).setCell (p := ⟨w.heap.size + 1, 1, none⟩) (by simp) _).setCell (p := ⟨w.heap.size + 1, 2, none⟩) (by simp) _⟩
   ·obtain ⟨l1, l2, l3⟩ := list_facts hl
    have l4 : (l.length == 0) = false := beq_eq_false_iff_ne.2 l2
    have l5 : ((l.length : Int) == 0) = false := beq_eq_false_iff_ne.2 (by omega)
    have HR : Hid (constF (.mk 5 i t l) = (⟨0, 0, ⟨#[]⟩⟩, false)) := hid (by simp [constF, Dt.kind_mk, Dt.int_mk, Dt.text_mk, Dt.list_mk, hE, hl, Hp.none])
    rw [HR.out]
    clear hE l3 hl
    go_enter Tryz.func90, Tryz.ntmps90
    go_wp2_with fail
    with_reducible refine (HC.out _ ((((Below.refl _ _).alloc (Nat.le_refl _) _).alloc (by simp) _))).mono ?_
    rintro e w3 ⟨rfl, hb3⟩
    obtain ⟨hB3, ⟨q0, q1, q2, q3⟩, hz3⟩ := cn_rows hb3
    obtain ⟨z0, z1, z2, y0, y1, y2⟩ := Zer3.of hz3
    have HB3 := hid hB3
    have HZ3 := hid hz3
    clear hb3 hB3 hz3
    go_wp2_with fail
    refine bodyPost_ret (res2 rfl _ _ (w.heap.size + 1) 78 _ (0, 0) rfl (three_set _ _ _ _ _ _ _ _ _ HZ3.out) valD valSize) rfl ?_
    exact ⟨rfl, ((HB3.out.setCell (p := ⟨w.heap.size + 1, 0, none⟩) (by simp) _).setCell (p := ⟨w.heap.size + 1, 1, none⟩) (by simp) _).setCell (p := ⟨w.heap.size + 1, 2, none⟩) (by simp) _⟩
  ·obtain ⟨k0, k1, k2, k4, k5⟩ := hk
   have j0 : (k == 0) = false := beq_eq_false_iff_ne.2 k0
   have j1 : (k == 1) = false := beq_eq_false_iff_ne.2 k1
   have j2 : (k == 2) = false := beq_eq_false_iff_ne.2 k2
   have j4 : (k == 4) = false := beq_eq_false_iff_ne.2 k4
   have j5 : (k == 5) = false := beq_eq_false_iff_ne.2 k5
   have HR : Hid (constF (.mk k i t l) = (⟨0, 0, ⟨#[]⟩⟩, false)) := hid (by simp [constF, Dt.kind_mk, Dt.int_mk, Dt.text_mk, Dt.list_mk, hE, k0, k1, k2, k4, k5, Hp.none])
   rw [HR.out]
   clear hE k0 k1 k2 k4 k5
   go_enter Tryz.func90, Tryz.ntmps90
   go_wp2_with fail
   with_reducible refine (HC.out _ ((((Below.refl _ _).alloc (Nat.le_refl _) _).alloc (by simp) _))).mono ?_
   rintro e w3 ⟨rfl, hb3⟩
   obtain ⟨hB3, ⟨q0, q1, q2, q3⟩, hz3⟩ := cn_rows hb3
   obtain ⟨z0, z1, z2, y0, y1, y2⟩ := Zer3.of hz3
   have HB3 := hid hB3
   have HZ3 := hid hz3
   clear hb3 hB3 hz3
   go_wp2_with fail
   refine bodyPost_ret (res2 rfl _ _ (w.heap.size + 1) 78 _ (0, 0) rfl (three_set _ _ _ _ _ _ _ _ _ HZ3.out) valD valSize) rfl ?_
   exact ⟨rfl, ((HB3.out.setCell (p := ⟨w.heap.size + 1, 0, none⟩) (by simp) _).setCell (p := ⟨w.heap.size + 1, 1, none⟩) (by simp) _).setCell (p := ⟨w.heap.size + 1, 2, none⟩) (by simp) _⟩
 ·have hE2 : ((Dt.mk k i t l).chkE != 0) = true := by simpa using hE
  have HR : Hid (constF (.mk k i t l) = (⟨0, 0, ⟨#[]⟩⟩, false)) := hid (by simp [constF, Dt.kind_mk, Dt.int_mk, Dt.text_mk, Dt.list_mk, hE, Hp.none])
  rw [HR.out]
  generalize (Dt.mk k i t l).chkE = E at *
  clear HR hE
  go_enter Tryz.func90, Tryz.ntmps90
  go_wp2_with fail
  with_reducible refine (HC.out _ ((((Below.refl _ _).alloc (Nat.le_refl _) _).alloc (by simp) _))).mono ?_
  rintro e w3 ⟨rfl, hb3⟩
  obtain ⟨hB3, ⟨q0, q1, q2, q3⟩, hz3⟩ := cn_rows hb3
  obtain ⟨z0, z1, z2, y0, y1, y2⟩ := Zer3.of hz3
  have HB3 := hid hB3
  have HZ3 := hid hz3
  clear hb3 hB3 hz3
  go_wp2_with fail
  refine bodyPost_ret (res2 rfl _ _ (w.heap.size + 1) 78 _ (0, 0) rfl (three_set _ _ _ _ _ _ _ _ _ HZ3.out) valD valSize) rfl ?_
  exact ⟨rfl, ((HB3.out.setCell (p := ⟨w.heap.size + 1, 0, none⟩) (by simp) _).setCell (p := ⟨w.heap.size + 1, 1, none⟩) (by simp) _).setCell (p := ⟨w.heap.size + 1, 2, none⟩) (by simp) _⟩
def strs (l : List ByteArray) : List Value := l.map Value.string
def exV (k : Int) (n : ByteArray) (nv : Value) (c : Dt) (dl kv : Value) : Value := .agg #[.int .i64 k, .string n, nv, .int .i64 c.kind, .int .i64 c.int, .string c.text, dl, kv]
def RoomOk (v : Value) : Prop := ∃ a n c, v = .slice a n c ∧ n ≤ c
inductive ExAt (w : World) : Value → Ex → Prop
 | nil (k : Int) (n : ByteArray) (l : List ByteArray) (c : Dt) (nv dl : Value) {a : Option Addr} {q : Nat} (hn : Sl w nv (strs l)) (hd : DtAt w (fun _ => True) (.agg #[.int .i64 c.kind, .int .i64 c.int, .string c.text, dl]) c) (hr : RoomOk nv) :
   ExAt w (exV k n nv c dl (.slice a 0 q)) (.mk k n l c [])
 | row (k : Int) (n : ByteArray) (l : List ByteArray) (c : Dt) (nv dl : Value) (ks : List Ex) (b off q : Nat) (nvs dls kvs : Nat → Value) (hn : Sl w nv (strs l)) (hd : DtAt w (fun _ => True) (.agg #[.int .i64 c.kind, .int .i64 c.int, .string c.text, dl]) c) (hr : RoomOk nv) (hb : b < w.heap.size) (hq : ks.length ≤ q)
   (hc : ∀ j x, ks[j]? = some x → w.cell? ⟨b, off + j * 8, none⟩ = some (.int .i64 x.kind) ∧ w.cell? ⟨b, off + j * 8 + 1, none⟩ = some (.string x.name) ∧ w.cell? ⟨b, off + j * 8 + 2, none⟩ = some (nvs j) ∧ w.cell? ⟨b, off + j * 8 + 3, none⟩ = some (.int .i64 x.const.kind) ∧ w.cell? ⟨b, off + j * 8 + 4, none⟩ = some (.int .i64 x.const.int) ∧ w.cell? ⟨b, off + j * 8 + 5, none⟩ = some (.string x.const.text) ∧ w.cell? ⟨b, off + j * 8 + 6, none⟩ = some (dls j) ∧ w.cell? ⟨b, off + j * 8 + 7, none⟩ = some (kvs j))
   (hk : ∀ j x, ks[j]? = some x → ExAt w (exV x.kind x.name (nvs j) x.const (dls j) (kvs j)) x) :
   ExAt w (exV k n nv c dl (.slice (some ⟨b, off, none⟩) ks.length q)) (.mk k n l c ks)
structure ExC (w : World) (b o : Nat) (x : Ex) (nv dl kv : Value) : Prop where
 c0 : w.cell? ⟨b, o, none⟩ = some (.int .i64 x.kind)
 c1 : w.cell? ⟨b, o + 1, none⟩ = some (.string x.name)
 c2 : w.cell? ⟨b, o + 2, none⟩ = some nv
 c3 : w.cell? ⟨b, o + 3, none⟩ = some (.int .i64 x.const.kind)
 c4 : w.cell? ⟨b, o + 4, none⟩ = some (.int .i64 x.const.int)
 c5 : w.cell? ⟨b, o + 5, none⟩ = some (.string x.const.text)
 c6 : w.cell? ⟨b, o + 6, none⟩ = some dl
 c7 : w.cell? ⟨b, o + 7, none⟩ = some kv
 ex : ExAt w (exV x.kind x.name nv x.const dl kv) x
theorem ExAt.bel {w w' : World} {v : Value} {e : Ex} (h : ExAt w v e) (hb : Below w.heap.size w w') : ExAt w' v e := by
 induction h with
 | nil k n l c nv dl hn hd hr => exact .nil k n l c nv dl (hn.below hb (Nat.le_refl _)) (hd.bel hb (Nat.le_refl _)) hr
 | row k n l c nv dl ks b off q nvs dls kvs hn hd hr hl hq hc hk ih =>
  have e : ∀ o, w'.cell? ⟨b, o, none⟩ = w.cell? ⟨b, o, none⟩ := fun o => hb.cell (p := ⟨b, o, none⟩) hl
  refine .row k n l c nv dl ks b off q nvs dls kvs (hn.below hb (Nat.le_refl _)) (hd.bel hb (Nat.le_refl _)) hr (Nat.lt_of_lt_of_le hl hb.size) hq (fun j x hx => ?_) ih
  rw [e, e, e, e, e, e, e, e]
  exact hc j x hx
theorem ExAt.inv {w : World} {v : Value} {e : Ex} (h : ExAt w v e) : ∃ nv dl a q, v = exV e.kind e.name nv e.const dl (.slice a e.kids.length q) ∧ Sl w nv (strs e.names) ∧ DtAt w (fun _ => True) (.agg #[.int .i64 e.const.kind, .int .i64 e.const.int, .string e.const.text, dl]) e.const ∧ e.kids.length ≤ q ∧
  (e.kids = [] ∨ ∃ b off, a = some ⟨b, off, none⟩ ∧ b < w.heap.size ∧ ∀ j x, e.kids[j]? = some x → ∃ nvj dlj kvj, ExC w b (off + j * 8) x nvj dlj kvj) := by
 cases h with
 | nil k n l c nv dl hn hd hr => exact ⟨nv, dl, _, _, rfl, hn, hd, Nat.zero_le _, .inl rfl⟩
 | row k n l c nv dl ks b off q nvs dls kvs hn hd hr hl hq hc hk =>
  refine ⟨nv, dl, _, q, rfl, hn, hd, hq, .inr ⟨b, off, rfl, hl, fun j x hx => ?_⟩⟩
  obtain ⟨h0, h1, h2, h3, h4, h5, h6, h7⟩ := hc j x hx
  exact ⟨nvs j, dls j, kvs j, h0, h1, h2, h3, h4, h5, h6, h7, hk j x hx⟩
theorem ExAt.room {w : World} {k : Int} {n : ByteArray} {nv dl kv : Value} {c : Dt} {e : Ex} (h : ExAt w (exV k n nv c dl kv) e) : RoomOk nv := by
 generalize hv : exV k n nv c dl kv = v at h
 cases h with
 | nil k' n' l' c' nv' dl' hn hd hr => unfold exV at hv; simp at hv; rw [hv.2.2.1]; exact hr
 | row k' n' l' c' nv' dl' ks b off q nvs dls kvs hn hd hr hl hq hc hk => unfold exV at hv; simp at hv; rw [hv.2.2.1]; exact hr
theorem ExAt.of {w : World} {k : Int} {n : ByteArray} {l : List ByteArray} {c : Dt} {nv dl : Value} {ks : List Ex} {a : Option Addr} {q : Nat} (hn : Sl w nv (strs l)) (hd : DtAt w (fun _ => True) (.agg #[.int .i64 c.kind, .int .i64 c.int, .string c.text, dl]) c) (hr : RoomOk nv) (hq : ks.length ≤ q)
  (hk : ks = [] ∨ ∃ b off, a = some ⟨b, off, none⟩ ∧ b < w.heap.size ∧ ∀ j x, ks[j]? = some x → ∃ nvj dlj kvj, ExC w b (off + j * 8) x nvj dlj kvj) : ExAt w (exV k n nv c dl (.slice a ks.length q)) (.mk k n l c ks) := by
 rcases hk with rfl | ⟨b, off, rfl, hl, hc⟩
 ·exact .nil k n l c nv dl hn hd hr
 ·have H : ∀ j, ∃ nvj dlj kvj, ∀ x, ks[j]? = some x → ExC w b (off + j * 8) x nvj dlj kvj := fun j => by
   cases hx : ks[j]? with
   | none => exact ⟨undef, undef, undef, fun x h => nomatch h⟩
   | some x =>
    obtain ⟨p, q, r, h⟩ := hc j x hx
    exact ⟨p, q, r, fun y hy => by cases hy; exact h⟩
  refine .row k n l c nv dl ks b off q (fun j => (H j).choose) (fun j => (H j).choose_spec.choose) (fun j => (H j).choose_spec.choose_spec.choose) hn hd hr hl hq (fun j x hx => ?_) (fun j x hx => ?_)
  ·have h := (H j).choose_spec.choose_spec.choose_spec x hx
   exact ⟨h.c0, h.c1, h.c2, h.c3, h.c4, h.c5, h.c6, h.c7⟩
  ·exact ((H j).choose_spec.choose_spec.choose_spec x hx).ex
theorem ExC.bel {w w' : World} {b o : Nat} {x : Ex} {nv dl kv : Value} (h : ExC w b o x nv dl kv) (hl : b < w.heap.size) (hb : Below w.heap.size w w') : ExC w' b o x nv dl kv :=
 have e : ∀ o, w'.cell? ⟨b, o, none⟩ = w.cell? ⟨b, o, none⟩ := fun o => hb.cell (p := ⟨b, o, none⟩) hl
 ⟨(e _).trans h.c0, (e _).trans h.c1, (e _).trans h.c2, (e _).trans h.c3, (e _).trans h.c4, (e _).trans h.c5, (e _).trans h.c6, (e _).trans h.c7, h.ex.bel hb⟩
namespace Ex
section
variable {Q : ByteArray → Ex → Bool} {O : ByteArray → Ex → Prop}
theorem binds_all {k : Int} (h : k = 5 ∨ k = 9 ∨ k = 10) (n i : Nat) : binds k n i = true := by
 unfold binds
 rcases h with h | h | h <;> simp [h]
theorem binds_none {k : Int} (h5 : k ≠ 5) (h9 : k ≠ 9) (h10 : k ≠ 10) (h8 : k ≠ 8) (n i : Nat) : binds k n i = false := by
 unfold binds
 simp [h5, h9, h10, h8]
theorem binds_let {n i : Nat} : binds 8 n i = decide (i + 1 = n) := by
 unfold binds
 simp
theorem snoc_cases {l : List Ex} {b x : Ex} {j : Nat} (h : (l ++ [b])[j]? = some x) : (j < l.length ∧ l[j]? = some x) ∨ (j = l.length ∧ x = b) := by
 by_cases hj : j < l.length
 ·rw [List.getElem?_append_left hj] at h
  exact .inl ⟨hj, h⟩
 ·have h2 : j < (l ++ [b]).length := (List.getElem?_eq_some_iff.1 h).1
  have : j = l.length := by simp at h2; omega
  subst this
  rw [List.getElem?_append_right (Nat.le_refl _)] at h
  simp at h
  exact .inr ⟨rfl, h.symm⟩
end
end Ex
namespace Ex
theorem free_prim (s p : ByteArray) (l : List Ex) : isFree s (primE p l) = true ↔ ∃ x ∈ l, isFree s x = true := by
 unfold primE
 rw [isFree_iff]
 simp only [kind_mk, name_mk, names_mk, kids_mk]
 constructor
 ·rintro (⟨h | h, _⟩ | ⟨j, x, hx, _, h⟩)
  ·exact absurd h (by decide)
  ·exact absurd h (by decide)
  ·exact ⟨x, List.mem_of_getElem? hx, h⟩
 ·rintro ⟨x, hx, h⟩
  obtain ⟨j, hj⟩ := List.mem_iff_getElem?.1 hx
  exact .inr ⟨j, x, hj, by rw [binds_none (by decide) (by decide) (by decide) (by decide), Bool.false_and], h⟩
theorem free_ref (s n : ByteArray) : isFree s (refE n) = true ↔ n = s := by
 unfold refE
 rw [isFree_iff]
 simp only [kind_mk, name_mk, names_mk, kids_mk]
 constructor
 ·rintro (⟨_, h⟩ | ⟨j, x, hx, _⟩)
  ·exact h
  ·simp at hx
 ·exact fun h => .inl ⟨.inl trivial, h⟩
theorem free_let {s : ByteArray} {ns : List ByteArray} {ins : List Ex} {b : Ex} (hl : ins.length = ns.length) : isFree s (letE ns ins b) = true ↔ (∃ x ∈ ins, isFree s x = true) ∨ s ∉ ns ∧ isFree s b = true := by
 unfold letE
 split
 ·rename_i h0
  rw [List.isEmpty_iff] at h0
  subst h0
  obtain rfl : ins = [] := List.length_eq_zero_iff.1 hl
  simp
 ·rw [isFree_iff]
  simp only [kind_mk, name_mk, names_mk, kids_mk, binds_let, List.length_append, List.length_singleton]
  constructor
  ·rintro (⟨h | h, _⟩ | ⟨j, x, hx, hb, h⟩)
   ·exact absurd h (by decide)
   ·exact absurd h (by decide)
   ·rcases snoc_cases hx with ⟨hj, hx⟩ | ⟨rfl, rfl⟩
    ·exact .inl ⟨x, List.mem_of_getElem? hx, h⟩
    ·rw [decide_eq_true rfl, Bool.true_and] at hb
     exact .inr ⟨(fun hm => by rw [(inN_iff ns s).2 hm] at hb; cases hb), h⟩
  ·rintro (⟨x, hx, h⟩ | ⟨hn, h⟩)
   ·obtain ⟨j, hj⟩ := List.mem_iff_getElem?.1 hx
    have hjl := (List.getElem?_eq_some_iff.1 hj).1
    exact .inr ⟨j, x, by rw [List.getElem?_append_left hjl]; exact hj, by rw [decide_eq_false (by omega), Bool.false_and], h⟩
   ·refine .inr ⟨ins.length, b, by rw [List.getElem?_append_right (Nat.le_refl _)]; simp, ?_, h⟩
    cases hi : inN ns s
    ·rw [Bool.and_false]
    ·exact absurd ((inN_iff ns s).1 hi) hn
def FreeSame (s : ByteArray) (os ks : List Ex) : Prop := os.length = ks.length ∧ ∀ (j : Nat) (y x : Ex), os[j]? = some y → ks[j]? = some x → (isFree s y = true ↔ isFree s x = true)
theorem free_self {s : ByteArray} {e : Ex} {os : List Ex} (h : FreeSame s os e.kids) : isFree s (mk e.kind e.name e.names e.const os) = true ↔ isFree s e = true := by
 rw [isFree_iff, isFree_iff]
 simp only [kind_mk, name_mk, names_mk, kids_mk, h.1]
 constructor
 ·rintro (h1 | ⟨j, y, hy, hb, hf⟩)
  ·exact .inl h1
  ·obtain ⟨x, hx⟩ : ∃ x, e.kids[j]? = some x := ⟨_, List.getElem?_eq_getElem (by rw [← h.1]; exact (List.getElem?_eq_some_iff.1 hy).1)⟩
   exact .inr ⟨j, x, hx, hb, (h.2 j y x hy hx).1 hf⟩
 ·rintro (h1 | ⟨j, x, hx, hb, hf⟩)
  ·exact .inl h1
  ·obtain ⟨y, hy⟩ : ∃ y, os[j]? = some y := ⟨_, List.getElem?_eq_getElem (by rw [h.1]; exact (List.getElem?_eq_some_iff.1 hx).1)⟩
   exact .inr ⟨j, y, hy, hb, (h.2 j y x hy hx).2 hf⟩
theorem free_ins (s : ByteArray) (B : ByteArray → Bool) : ∀ (ns : List ByteArray) (l : List Ex) (j : Nat) (y x : Ex), (boxIns B ns l)[j]? = some y → l[j]? = some x → (isFree s y = true ↔ isFree s x = true)
 | [], l, j, y, x, hy, hx => by rw [boxIns, hx] at hy; cases hy; exact Iff.rfl
 | n :: ns, [], j, y, x, hy, hx => by simp at hx
 | n :: ns, z :: l, 0, y, x, hy, hx => by
  rw [boxIns] at hy
  simp only [List.getElem?_cons_zero, Option.some.injEq] at hy hx
  subst hx
  rw [← hy]
  split
  ·rw [free_prim]; simp
  ·exact Iff.rfl
 | n :: ns, z :: l, j + 1, y, x, hy, hx => by
  rw [boxIns] at hy
  rw [List.getElem?_cons_succ] at hy hx
  exact free_ins s B ns l j y x hy hx
theorem free_boxE (s : ByteArray) (e : Ex) : ∀ B, all form e = true → (isFree s (boxE B e) = true ↔ isFree s e = true) := by
 induction e using byKids with
 | _ e ih =>
 intro B h
 rw [all_iff] at h
 have hS : FreeSame s (boxL B (innerB e B) e.kind e.kids.length 0 e.kids) e.kids := ⟨boxL_length _ _ _ _ _ _, fun j y x hy hx => by
  rw [boxL_at, hx] at hy
  simp only [Option.map_some, Option.some.injEq] at hy
  rw [← hy]
  exact ih x (List.mem_of_getElem? hx) _ (h.2 x (List.mem_of_getElem? hx))⟩
 rw [boxE_eq]
 generalize boxL B (innerB e B) e.kind e.kids.length 0 e.kids = os at *
 have hself := free_self hS
 unfold boxK
 split
 ·split
  ·rw [free_prim]
   simpa using hself
  ·exact hself
 ·split
  ·rename_i k2
   have hf := h.1
   unfold form at hf
   simp [k2] at hf
   obtain ⟨x, hx⟩ := List.length_eq_one_iff.1 hf.2.2
   obtain ⟨y, rfl⟩ : ∃ y, os = [y] := List.length_eq_one_iff.1 (by rw [hS.1]; exact hf.2.2)
   have hyx := hS.2 0 y x rfl (by rw [hx]; rfl)
   rw [free_prim, isFree_iff s e, hx]
   constructor
   ·rintro ⟨z, hz, hz2⟩
    rcases List.mem_cons.1 hz with hz | hz
    ·rw [hz, free_ref] at hz2
     exact .inl ⟨.inr k2, hz2⟩
    ·rw [List.mem_singleton.1 hz] at hz2
     exact .inr ⟨0, x, rfl, by rw [binds_none (by omega) (by omega) (by omega) (by omega), Bool.false_and], hyx.1 hz2⟩
   ·rintro (⟨_, hn⟩ | ⟨j, z, hz, _, hz2⟩)
    ·exact ⟨refE e.name, by simp, (free_ref _ _).2 hn⟩
    ·cases j with
     | zero =>
      simp at hz
      subst hz
      exact ⟨y, by simp, hyx.2 hz2⟩
     | succ j => simp at hz
  ·split
   ·rename_i k8
    refine free_self ⟨by rw [boxIns_length]; exact hS.1, fun j y x hy hx => ?_⟩
    obtain ⟨o, ho⟩ : ∃ o, os[j]? = some o := ⟨_, List.getElem?_eq_getElem (by rw [hS.1]; exact (List.getElem?_eq_some_iff.1 hx).1)⟩
    exact (free_ins s _ _ _ j y o hy ho).trans (hS.2 j o x ho hx)
   ·split
    ·rename_i k5
     have hl1 := form_lam h.1 k5
     obtain ⟨x, hx⟩ := List.length_eq_one_iff.1 hl1
     obtain ⟨y, rfl⟩ : ∃ y, os = [y] := List.length_eq_one_iff.1 (by rw [hS.1]; exact hl1)
     have hyx := hS.2 0 y x rfl (by rw [hx]; rfl)
     rw [isFree_iff, isFree_iff s e, hx]
     simp only [kind_mk, name_mk, names_mk, kids_mk, List.headD_cons, List.tail_cons, binds_all (.inl k5), Bool.true_and]
     have key : inN e.names s = false → (isFree s (letE (e.names.filter (innerB e B)) ((e.names.filter (innerB e B)).map fun s => primE sBox [refE s]) y) = true ↔ isFree s x = true) := by
      intro hn
      have hnm : s ∉ e.names := fun hm => by rw [(inN_iff _ _).2 hm] at hn; cases hn
      rw [free_let (by simp)]
      constructor
      ·rintro (⟨z, hz, hz2⟩ | ⟨_, hz2⟩)
       ·obtain ⟨t, ht, rfl⟩ := List.mem_map.1 hz
        rw [free_prim] at hz2
        obtain ⟨u, hu, hu2⟩ := hz2
        rw [List.mem_singleton.1 hu, free_ref] at hu2
        exact absurd (hu2 ▸ (List.mem_filter.1 ht).1) hnm
       ·exact hyx.1 hz2
      ·exact fun hz => .inr ⟨fun hm => hnm (List.mem_filter.1 hm).1, hyx.2 hz⟩
     constructor
     ·rintro (hh | ⟨j, z, hz, hb, hz2⟩)
      ·exact .inl hh
      ·cases j with
       | zero =>
        simp at hz
        subst hz
        exact .inr ⟨0, x, rfl, hb, (key hb).1 hz2⟩
       | succ j => simp at hz
     ·rintro (hh | ⟨j, z, hz, hb, hz2⟩)
      ·exact .inl hh
      ·cases j with
       | zero =>
        simp at hz
        subst hz
        exact .inr ⟨0, _, rfl, hb, (key hb).2 hz2⟩
       | succ j => simp at hz
    ·exact hself
end Ex
namespace Ex
mutual
def nsets : Ex → Nat | mk k _ _ _ ks => (if k = 2 then 1 else 0) + nsetss ks
def nsetss : List Ex → Nat | [] => 0 | x :: l => nsets x + nsetss l
end
mutual
def nbox : Ex → Nat | mk k n ns c ks => (if k = 5 ∨ k = 8 then (ns.filter (assigned (mk k n ns c ks))).length else 0) + nboxs ks
def nboxs : List Ex → Nat | [] => 0 | x :: l => nbox x + nboxs l
end
theorem nsets_eq (e : Ex) : nsets e = (if e.kind = 2 then 1 else 0) + nsetss e.kids := by cases e; rw [nsets]; rfl
theorem nbox_eq (e : Ex) : nbox e = (if e.kind = 5 ∨ e.kind = 8 then (e.names.filter (assigned e)).length else 0) + nboxs e.kids := by cases e; rw [nbox]; rfl
theorem nsetss_app : ∀ l r : List Ex, nsetss (l ++ r) = nsetss l + nsetss r
 | [], r => by simp [nsetss]
 | x :: l, r => by rw [List.cons_append, nsetss, nsetss, nsetss_app l r]; omega
theorem nboxs_app : ∀ l r : List Ex, nboxs (l ++ r) = nboxs l + nboxs r
 | [], r => by simp [nboxs]
 | x :: l, r => by rw [List.cons_append, nboxs, nboxs, nboxs_app l r]; omega
theorem nsets_le (e : Ex) : nsets e ≤ e.size := by
 induction e using byKids with
 | _ e ih =>
 have h : ∀ l : List Ex, (∀ x ∈ l, nsets x ≤ x.size) → nsetss l ≤ sizes l := by
  intro l
  induction l with
  | nil => intro _; simp [nsetss, sizes]
  | cons x l ihl =>
   intro h
   rw [nsetss, sizes]
   have := h x (by simp)
   have := ihl fun y hy => h y (by simp [hy])
   omega
 rw [nsets_eq, size_eq]
 have := h e.kids ih
 split <;> omega
theorem part_len {α : Type} (f : α → Bool) (l : List α) : (l.filter f).length + (l.filter fun x => !f x).length = l.length := by
 induction l with
 | nil => rfl
 | cons x l ih =>
  cases h : f x
  ·rw [List.filter_cons_of_neg (by simp [h]), List.filter_cons_of_pos (by simp [h]), List.length_cons, List.length_cons]; omega
  ·rw [List.filter_cons_of_pos h, List.filter_cons_of_neg (by simp [h]), List.length_cons, List.length_cons]; omega
theorem count_kids : ∀ (l : List Ex), (∀ x ∈ l, ∀ L : List ByteArray, L.Nodup → (∀ s ∈ L, sets s x = true) → nbox x + L.length ≤ nsets x) → ∀ L : List ByteArray, L.Nodup → (∀ s ∈ L, ∃ x ∈ l, sets s x = true) → nboxs l + L.length ≤ nsetss l
 | [], _, L, _, hL => by
  have : L = [] := by
   cases L with
   | nil => rfl
   | cons s L =>
    obtain ⟨x, hx, _⟩ := hL s (by simp)
    simp at hx
  subst this
  simp [nboxs, nsetss]
 | x :: l, h, L, hn, hL => by
  have h1 := h x (by simp) (L.filter fun s => sets s x) (hn.sublist List.filter_sublist) (fun s hs => (List.mem_filter.1 hs).2)
  have h2 := count_kids l (fun y hy => h y (by simp [hy])) (L.filter fun s => !sets s x) (hn.sublist List.filter_sublist) (fun s hs => by
   obtain ⟨hs, hx⟩ := List.mem_filter.1 hs
   obtain ⟨y, hy, hy2⟩ := hL s hs
   rcases List.mem_cons.1 hy with e | hy
   ·rw [e] at hy2
    rw [hy2] at hx
    cases hx
   ·exact ⟨y, hy, hy2⟩)
  have h3 := part_len (fun s => sets s x) L
  rw [nboxs, nsetss]
  omega
theorem nbox_le (e : Ex) : all form e = true → ∀ L : List ByteArray, L.Nodup → (∀ s ∈ L, sets s e = true) → nbox e + L.length ≤ nsets e := by
 induction e using byKids with
 | _ e ih =>
 intro hf L hn hL
 rw [all_iff] at hf
 have IH : ∀ x ∈ e.kids, ∀ L : List ByteArray, L.Nodup → (∀ s ∈ L, sets s x = true) → nbox x + L.length ≤ nsets x := fun x hx => ih x hx (hf.2 x hx)
 have hsub : ∀ s ∈ L, e.kind ≠ 2 → ∃ x ∈ e.kids, sets s x = true := fun s hs h2 => by
  rcases (sets_iff s e).1 (hL s hs) with h | ⟨j, x, hx, _, h⟩
  ·exact absurd h.1 h2
  ·exact ⟨x, List.mem_of_getElem? hx, h⟩
 rw [nbox_eq, nsets_eq]
 by_cases k2 : e.kind = 2
 ·rw [if_pos k2, if_neg (by omega)]
  have h1 := count_kids e.kids IH (L.filter fun s => !decide (s = e.name)) (hn.sublist List.filter_sublist) (fun s hs => by
   obtain ⟨hs, hne⟩ := List.mem_filter.1 hs
   rcases (sets_iff s e).1 (hL s hs) with h | ⟨j, x, hx, _, h⟩
   ·rw [decide_eq_true h.2.symm] at hne
    cases hne
   ·exact ⟨x, List.mem_of_getElem? hx, h⟩)
  have h2 : (L.filter fun s => decide (s = e.name)).length ≤ 1 := by
   have hn2 := hn.sublist (List.filter_sublist (p := fun s => decide (s = e.name)))
   match hq : L.filter (fun s => decide (s = e.name)) with
   | [] => simp
   | [_] => simp
   | a :: b :: r =>
    rw [hq] at hn2
    have ha : a = e.name := of_decide_eq_true (List.mem_filter.1 (show a ∈ L.filter _ by rw [hq]; simp)).2
    have hb : b = e.name := of_decide_eq_true (List.mem_filter.1 (show b ∈ L.filter _ by rw [hq]; simp)).2
    rw [List.nodup_cons] at hn2
    exact absurd (by rw [ha, hb]; simp) hn2.1
  have h3 := part_len (fun s => decide (s = e.name)) L
  omega
 ·rw [if_neg k2]
  by_cases k58 : e.kind = 5 ∨ e.kind = 8
  ·rw [if_pos k58]
   have hns : e.names.Nodup := by
    have h := hf.1
    unfold form at h
    rw [if_neg (by omega), Bool.and_eq_true, Bool.and_eq_true] at h
    exact ((namesB_iff _).1 h.1.2).2
   have hown := hns.sublist (List.filter_sublist (p := assigned e))
   have hdis : ∀ M : List ByteArray, M.Nodup → (∀ s ∈ M, s ∉ e.names) → (e.names.filter (assigned e) ++ M).Nodup := fun M hM h => by
    rw [List.nodup_append]
    exact ⟨hown, hM, fun a ha b hb e1 => h b hb (e1 ▸ (List.mem_filter.1 ha).1)⟩
   rcases k58 with k5 | k8
   ·have hM : ∀ s ∈ L, s ∉ e.names := fun s hs hm => by
     rcases (sets_iff s e).1 (hL s hs) with h | ⟨j, x, hx, hb, h⟩
     ·exact k2 h.1
     ·rw [binds_all (.inl k5), Bool.true_and, (inN_iff _ _).2 hm] at hb
      cases hb
    have := count_kids e.kids IH (e.names.filter (assigned e) ++ L) (hdis L hn hM) (fun s hs => by
     rcases List.mem_append.1 hs with hs | hs
     ·obtain ⟨j, x, hx, _, h⟩ := (assigned_iff e s).1 (List.mem_filter.1 hs).2
      exact ⟨x, List.mem_of_getElem? hx, h⟩
     ·exact hsub s hs k2)
    rw [List.length_append] at this
    omega
   ·have hlen : e.kids.length = e.names.length + 1 := by
     have h := hf.1
     unfold form at h
     simp [k8] at h
     exact h.2.2
    obtain ⟨b, hb⟩ : ∃ x, e.kids[e.names.length]? = some x := ⟨_, List.getElem?_eq_getElem (by omega)⟩
    have hks : e.kids = e.kids.take e.names.length ++ [b] := by
     rw [← List.take_append_drop e.names.length e.kids]
     congr 1
     ·rw [List.take_append_drop]
     ·have := List.drop_eq_getElem_cons (l := e.kids) (i := e.names.length) (by omega)
      rw [this]
      obtain ⟨hlt, hb⟩ := List.getElem?_eq_some_iff.1 hb
      rw [hb, List.drop_eq_nil_of_le (by omega)]
    have hbm : b ∈ e.kids := List.mem_of_getElem? hb
    have htl : (e.kids.take e.names.length).length = e.names.length := by rw [List.length_take]; omega
    -- those that an init sets, and the others
    have hI := count_kids (e.kids.take e.names.length) (fun x hx => IH x (List.mem_of_mem_take hx)) (L.filter fun s => (e.kids.take e.names.length).any (sets s)) (hn.sublist List.filter_sublist) (fun s hs => by
     obtain ⟨x, hx, h⟩ := List.any_eq_true.1 (List.mem_filter.1 hs).2
     exact ⟨x, hx, h⟩)
    have hB := IH b hbm (e.names.filter (assigned e) ++ L.filter fun s => !(e.kids.take e.names.length).any (sets s)) (hdis _ (hn.sublist List.filter_sublist) (fun s hs hm => by
     obtain ⟨hs, hna⟩ := List.mem_filter.1 hs
     rcases (sets_iff s e).1 (hL s hs) with h | ⟨j, x, hx, hbd, h⟩
     ·exact k2 h.1
     ·rw [hks] at hx
      rcases snoc_cases hx with ⟨hj, hx⟩ | ⟨hj, rfl⟩
      ·rw [List.any_eq_true.2 ⟨x, List.mem_of_getElem? hx, h⟩] at hna
       cases hna
      ·rw [k8, binds_let, decide_eq_true (by rw [hj, htl, hlen]), Bool.true_and, (inN_iff _ _).2 hm] at hbd
       cases hbd)) (fun s hs => by
     rcases List.mem_append.1 hs with hs | hs
     ·obtain ⟨j, x, hx, hbd, h⟩ := (assigned_iff e s).1 (List.mem_filter.1 hs).2
      rw [k8, binds_let] at hbd
      have hj := of_decide_eq_true hbd
      have : j = e.names.length := by omega
      rw [this, hb] at hx
      cases hx
      exact h
     ·obtain ⟨hs, hna⟩ := List.mem_filter.1 hs
      rcases (sets_iff s e).1 (hL s hs) with h | ⟨j, x, hx, hbd, h⟩
      ·exact absurd h.1 k2
      ·rw [hks] at hx
       rcases snoc_cases hx with ⟨hj, hx⟩ | ⟨hj, rfl⟩
       ·rw [List.any_eq_true.2 ⟨x, List.mem_of_getElem? hx, h⟩] at hna
        cases hna
       ·exact h)
    have hp := part_len (fun s => (e.kids.take e.names.length).any (sets s)) L
    rw [List.length_append] at hB
    have e1 : nboxs e.kids = nboxs (e.kids.take e.names.length) + nbox b := by
     conv => lhs; rw [hks, nboxs_app]
     simp [nboxs]
    have e2 : nsetss e.kids = nsetss (e.kids.take e.names.length) + nsets b := by
     conv => lhs; rw [hks, nsetss_app]
     simp [nsetss]
    omega
  ·rw [if_neg k58]
   have := count_kids e.kids IH L hn (fun s hs => hsub s hs k2)
   omega
theorem size_let (ns : List ByteArray) (ins : List Ex) (b : Ex) : (letE ns ins b).size ≤ b.size + (if ns.isEmpty then 0 else 1 + sizes ins) := by
 unfold letE
 split
 ·omega
 ·rw [size_eq, kids_mk, sizes_app]
  simp [sizes]
  omega
theorem size_ref (n : ByteArray) : (refE n).size = 1 := by unfold refE; rw [size_eq, kids_mk]; simp [sizes]
theorem size_prim (n : ByteArray) (l : List Ex) : (primE n l).size = sizes l + 1 := by unfold primE; rw [size_eq, kids_mk]
theorem sizes_refs (l : List ByteArray) : sizes (l.map fun s => primE sBox [refE s]) = 2 * l.length := by
 induction l with
 | nil => simp [sizes]
 | cons x l ih => rw [List.map_cons, sizes, ih, size_prim, sizes, size_ref, sizes, List.length_cons]; omega
theorem sizes_ins (B : ByteArray → Bool) : ∀ (ns : List ByteArray) (l : List Ex), sizes (boxIns B ns l) ≤ sizes l + (ns.filter B).length
 | [], l => by rw [boxIns]; simp
 | n :: ns, [] => by rw [boxIns]; simp [sizes]; simp
 | n :: ns, x :: l => by
  have ih := sizes_ins B ns l
  rw [boxIns, sizes, sizes]
  cases h : B n
  ·rw [List.filter_cons_of_neg (by simp [h])]
   simp only [Bool.false_eq_true, if_false]
   omega
  ·rw [List.filter_cons_of_pos h, List.length_cons]
   simp only [if_true]
   rw [size_prim, sizes, sizes]
   omega
theorem sizes_boxL (B B' : ByteArray → Bool) (k : Int) (N : Nat) : ∀ (i : Nat) (l : List Ex), (∀ x ∈ l, ∀ C, (boxE C x).size ≤ 2 * x.size + 3 * nbox x) → sizes (boxL B B' k N i l) ≤ 2 * sizes l + 3 * nboxs l
 | _, [], _ => by rw [boxL]; simp [sizes]
 | i, x :: l, h => by
  rw [boxL, sizes, sizes, nboxs]
  have := h x (by simp) (if binds k N i then B' else B)
  have := sizes_boxL B B' k N (i + 1) l fun y hy => h y (by simp [hy])
  omega
theorem own_eq (e : Ex) (B : ByteArray → Bool) : e.names.filter (innerB e B) = e.names.filter (assigned e) :=
 List.filter_congr fun s hs => by unfold innerB; rw [if_pos ((inN_iff _ _).2 hs)]
theorem size_boxE (e : Ex) : all form e = true → ∀ B, (boxE B e).size ≤ 2 * e.size + 3 * nbox e := by
 induction e using byKids with
 | _ e ih =>
 intro hf B
 rw [all_iff] at hf
 have hs := sizes_boxL B (innerB e B) e.kind e.kids.length 0 e.kids (fun x hx => ih x hx (hf.2 x hx))
 have hlen := boxL_length B (innerB e B) e.kind e.kids.length 0 e.kids
 rw [boxE_eq, size_eq e, nbox_eq]
 generalize boxL B (innerB e B) e.kind e.kids.length 0 e.kids = os at *
 unfold boxK
 split
 ·split
  ·rw [size_prim, sizes, sizes, size_eq, kids_mk]
   omega
  ·rw [size_eq, kids_mk]
   omega
 ·split
  ·rename_i k2
   have h := hf.1
   unfold form at h
   simp [k2] at h
   obtain ⟨y, rfl⟩ : ∃ y, os = [y] := List.length_eq_one_iff.1 (by rw [hlen]; exact h.2.2)
   rw [size_prim, sizes, sizes, sizes, size_ref]
   rw [sizes, sizes] at hs
   simp only [List.headD_cons]
   omega
  ·split
   ·rename_i k8
    rw [size_eq, kids_mk, if_pos (.inr k8)]
    have := sizes_ins (innerB e B) e.names os
    rw [own_eq] at this
    omega
   ·split
    ·rename_i k5
     obtain ⟨y, rfl⟩ : ∃ y, os = [y] := List.length_eq_one_iff.1 (by rw [hlen]; exact form_lam hf.1 k5)
     rw [size_eq, kids_mk, if_pos (.inl k5), own_eq]
     have := size_let (e.names.filter (assigned e)) ((e.names.filter (assigned e)).map fun s => primE sBox [refE s]) y
     rw [sizes_refs] at this
     rw [sizes, sizes] at hs
     simp only [List.headD_cons, List.tail_cons, sizes]
     split at this
     ·omega
     ·rename_i hne
      have : 1 ≤ (e.names.filter (assigned e)).length := by
       cases hq : e.names.filter (assigned e) with
       | nil => rw [hq] at hne; simp at hne
       | cons _ _ => simp
      omega
    ·rw [size_eq, kids_mk]
     omega
theorem deep_of {e : Ex} {m : Nat} (h : ∀ x ∈ e.kids, x.deep ≤ m) : e.deep ≤ m + 1 := by
 rw [deep_eq]
 have := deeps_le h
 omega
theorem deep_pos (e : Ex) : 1 ≤ e.deep := by rw [deep_eq]; omega
theorem deep_ref (n : ByteArray) : (refE n).deep = 1 := by unfold refE; rw [deep_eq, kids_mk]; simp [deeps]
theorem deep_prim {n : ByteArray} {l : List Ex} {m : Nat} (h : ∀ x ∈ l, x.deep ≤ m) : (primE n l).deep ≤ m + 1 := by unfold primE; exact deep_of h
theorem deep_boxE (e : Ex) : all form e = true → ∀ B, (boxE B e).deep ≤ 2 * e.deep + 1 := by
 induction e using byKids with
 | _ e ih =>
 intro hf B
 rw [all_iff] at hf
 have hL : ∀ y ∈ boxL B (innerB e B) e.kind e.kids.length 0 e.kids, y.deep ≤ 2 * deeps e.kids + 1 := fun y hy => by
  obtain ⟨x, C, hx, _, rfl⟩ := boxL_mem hy
  have := ih x hx (hf.2 x hx) C
  have := deep_mem e.kids x hx
  omega
 have hlen := boxL_length B (innerB e B) e.kind e.kids.length 0 e.kids
 rw [boxE_eq, deep_eq e]
 generalize boxL B (innerB e B) e.kind e.kids.length 0 e.kids = os at *
 have hself : (mk e.kind e.name e.names e.const os).deep ≤ 2 * deeps e.kids + 2 := deep_of hL
 unfold boxK
 split
 ·rename_i k1
  split
  ·have := deep_prim (n := sUnbox) (l := [mk e.kind e.name e.names e.const os]) (m := 2 * deeps e.kids + 2) (fun x hx => by rw [List.mem_singleton.1 hx]; exact hself)
   omega
  ·omega
 ·split
  ·rename_i k2
   have h := hf.1
   unfold form at h
   simp [k2] at h
   obtain ⟨y, rfl⟩ : ∃ y, os = [y] := List.length_eq_one_iff.1 (by rw [hlen]; exact h.2.2)
   have := deep_prim (n := sSetBox) (l := [refE e.name, y]) (m := 2 * deeps e.kids + 1) (fun x hx => by
    rcases List.mem_cons.1 hx with hx | hx
    ·rw [hx, deep_ref]; omega
    ·rw [List.mem_singleton.1 hx]; exact hL y (by simp))
   simp only [List.headD_cons]
   omega
  ·split
   ·rename_i k8
    have : (mk e.kind e.name e.names e.const (boxIns (innerB e B) e.names os)).deep ≤ (2 * deeps e.kids + 2) + 1 := deep_of fun y hy => by
     obtain ⟨x, hx, e1 | e1⟩ := boxIns_mem hy
     ·rw [e1]
      have := hL x hx
      omega
     ·rw [e1]
      exact deep_prim fun z hz => by rw [List.mem_singleton.1 hz]; exact hL x hx
    omega
   ·split
    ·rename_i k5
     have hl1 := form_lam hf.1 k5
     obtain ⟨y, rfl⟩ : ∃ y, os = [y] := List.length_eq_one_iff.1 (by rw [hlen]; exact hl1)
     have hd1 : 1 ≤ deeps e.kids := by
      obtain ⟨x, hx⟩ := List.length_eq_one_iff.1 hl1
      have := deep_mem e.kids x (by rw [hx]; simp)
      have := deep_pos x
      omega
     have hy := hL y (by simp)
     have : (mk e.kind e.name e.names e.const (letE (e.names.filter (innerB e B)) ((e.names.filter (innerB e B)).map fun s => primE sBox [refE s]) (List.headD [y] zero) :: List.tail [y])).deep ≤ (2 * deeps e.kids + 2) + 1 := deep_of fun z hz => by
      rw [List.mem_singleton.1 hz]
      unfold letE
      split
      ·simp only [List.headD_cons]
       omega
      ·refine deep_of fun u hu => ?_
       rcases List.mem_append.1 hu with hu | hu
       ·obtain ⟨t, _, rfl⟩ := List.mem_map.1 hu
        have := deep_prim (n := sBox) (l := [refE t]) (m := 1) (fun x hx => by rw [List.mem_singleton.1 hx, deep_ref]; omega)
        omega
       ·rw [List.mem_singleton.1 hu]
        exact hy
     omega
    ·omega
theorem small_box {e : Ex} (h : ok e = true) (hs : e.size ≤ 400) (hd : e.deep ≤ 25) (B : ByteArray → Bool) : ok (boxE B e) = true := by
 rw [ok_iff] at h ⊢
 have h1 := size_boxE e h.1 B
 have h2 := deep_boxE e h.1 B
 have h3 := nbox_le e h.1 [] List.nodup_nil (by simp)
 have h4 := nsets_le e
 exact ⟨form_boxE e B h.1, by omega, by simp at h3; omega⟩
end Ex
namespace Ex
def innerV (e : Ex) (V : ByteArray → Int) (s : ByteArray) : Int := if inN e.names s then (if e.kind = 10 then 2 else 1) else V s
mutual
def badE (V : ByteArray → Int) : Ex → Bool
 | mk k n ns c ks => decide (k = 9) || decide (k = 2) && decide (V n ≠ 1) || badL V (innerV (mk k n ns c ks) V) k ks.length 0 ks
def badL (V V' : ByteArray → Int) (k : Int) (N : Nat) : Nat → List Ex → Bool
 | _, [] => false
 | i, x :: l => badE (if binds k N i then V' else V) x || badL V V' k N (i + 1) l
end
theorem badL_iff (V V' : ByteArray → Int) (k : Int) (N : Nat) : ∀ (l : List Ex) (i : Nat), badL V V' k N i l = true ↔ ∃ (j : Nat) (x : Ex), l[j]? = some x ∧ badE (if binds k N (i + j) then V' else V) x = true
 | [], i => by simp [badL]
 | x :: l, i => by
  rw [badL, Bool.or_eq_true, badL_iff V V' k N l (i + 1)]
  constructor
  ·rintro (h | ⟨j, y, hj, h⟩)
   ·exact ⟨0, x, rfl, h⟩
   ·exact ⟨j + 1, y, by simpa using hj, by rw [show i + (j + 1) = i + 1 + j by omega]; exact h⟩
  ·rintro ⟨j, y, hj, h⟩
   cases j with
   | zero =>
    simp at hj
    subst hj
    exact .inl h
   | succ j => exact .inr ⟨j, y, by simpa using hj, by rw [show i + 1 + j = i + (j + 1) by omega]; exact h⟩
theorem badE_iff (V : ByteArray → Int) (e : Ex) : badE V e = true ↔ e.kind = 9 ∨ e.kind = 2 ∧ V e.name ≠ 1 ∨ ∃ (j : Nat) (x : Ex), e.kids[j]? = some x ∧ badE (if binds e.kind e.kids.length j then innerV e V else V) x = true := by
 cases e with
 | mk k n ns c ks =>
  rw [badE, Bool.or_eq_true, Bool.or_eq_true, Bool.and_eq_true, badL_iff]
  simp only [decide_eq_true_eq, kind, name, kids, names, Nat.zero_add, or_assoc]
  exact Iff.rfl
theorem bad_law (e : Ex) : ∀ V, badE V e = true ↔ has 9 e = true ∨ (∃ s, sets s e = true ∧ V s ≠ 1) ∨ fixSet e = true := by
 induction e using byKids with
 | _ e ih =>
 intro V
 rw [badE_iff]
 constructor
 ·rintro (h | ⟨h, hv⟩ | ⟨j, x, hx, hb⟩)
  ·exact .inl ((has_iff 9 e).2 (.inl h))
  ·exact .inr (.inl ⟨e.name, (sets_iff _ e).2 (.inl ⟨h, rfl⟩), hv⟩)
  ·have hm := List.mem_of_getElem? hx
   rcases (ih x hm _).1 hb with h | ⟨s, hs, hv⟩ | h
   ·exact .inl ((has_iff 9 e).2 (.inr ⟨x, hm, h⟩))
   ·cases hbd : binds e.kind e.kids.length j with
    | false =>
     rw [hbd] at hv
     exact .inr (.inl ⟨s, (sets_iff s e).2 (.inr ⟨j, x, hx, by rw [hbd, Bool.false_and], hs⟩), by simpa using hv⟩)
    | true =>
     rw [hbd] at hv
     simp only [if_true] at hv
     unfold innerV at hv
     cases hn : inN e.names s with
     | false =>
      rw [hn] at hv
      exact .inr (.inl ⟨s, (sets_iff s e).2 (.inr ⟨j, x, hx, by rw [hn, Bool.and_false], hs⟩), by simpa using hv⟩)
     | true =>
      rw [hn] at hv
      have k10 : e.kind = 10 := by
       by_cases hk : e.kind = 10
       ·exact hk
       ·simp [hk] at hv
      exact .inr (.inr ((fixSet_iff e).2 (.inl ⟨k10, s, (inN_iff _ _).1 hn, (assigned_iff e s).2 ⟨j, x, hx, hbd, hs⟩⟩)))
   ·exact .inr (.inr ((fixSet_iff e).2 (.inr ⟨x, hm, h⟩)))
 ·rintro (h | ⟨s, hs, hv⟩ | h)
  ·rcases (has_iff 9 e).1 h with h | ⟨x, hm, h⟩
   ·exact .inl h
   ·obtain ⟨j, hj⟩ := List.mem_iff_getElem?.1 hm
    exact .inr (.inr ⟨j, x, hj, (ih x hm _).2 (.inl h)⟩)
  ·rcases (sets_iff s e).1 hs with ⟨h, rfl⟩ | ⟨j, x, hx, hb, h⟩
   ·exact .inr (.inl ⟨h, hv⟩)
   ·refine .inr (.inr ⟨j, x, hx, (ih x (List.mem_of_getElem? hx) _).2 (.inr (.inl ⟨s, h, ?_⟩))⟩)
    cases hbd : binds e.kind e.kids.length j with
    | false => simpa using hv
    | true =>
     rw [hbd, Bool.true_and] at hb
     simp only [if_true]
     unfold innerV
     rw [hb]
     simpa using hv
  ·rcases (fixSet_iff e).1 h with ⟨k10, s, hn, ha⟩ | ⟨x, hm, h⟩
   ·obtain ⟨j, x, hx, hbd, hs⟩ := (assigned_iff e s).1 ha
    refine .inr (.inr ⟨j, x, hx, (ih x (List.mem_of_getElem? hx) _).2 (.inr (.inl ⟨s, hs, ?_⟩))⟩)
    rw [hbd]
    simp only [if_true]
    unfold innerV
    rw [(inN_iff _ _).2 hn, if_pos rfl, if_pos k10]
    decide
   ·obtain ⟨j, hj⟩ := List.mem_iff_getElem?.1 hm
    exact .inr (.inr ⟨j, x, hj, (ih x hm _).2 (.inr (.inr h))⟩)
end Ex
mutual
theorem Dt.same_true : ∀ a b : Dt, Dt.same a b = true → a = b
 | .mk k i t l, .mk k' i' t' l', h => by
  rw [Dt.same] at h
  simp only [Bool.and_eq_true, decide_eq_true_eq] at h
  obtain ⟨⟨⟨rfl, rfl⟩, rfl⟩, h⟩ := h
  rw [Dt.sames_true l l' h]
theorem Dt.sames_true : ∀ l m : List Dt, Dt.sames l m = true → l = m
 | [], [], _ => rfl
 | [], y :: m, h => by simp [Dt.sames] at h
 | x :: l, [], h => by simp [Dt.sames] at h
 | x :: l, y :: m, h => by
  rw [Dt.sames, Bool.and_eq_true] at h
  rw [Dt.same_true x y h.1, Dt.sames_true l m h.2]
end
namespace Ex
section
variable {Q : ByteArray → Ex → Bool} {O : ByteArray → Ex → Prop}
end
end Ex
namespace Ex
mutual
def same : Ex → Ex → Bool
 | mk k n l c ks, mk k' n' l' c' ks' => decide (k = k') && decide (n = n') && decide (l = l') && Dt.same c c' && sames ks ks'
def sames : List Ex → List Ex → Bool
 | [], [] => true
 | x :: l, y :: m => same x y && sames l m
 | [], _ :: _ => false
 | _ :: _, [] => false
end
theorem sames_iff : ∀ l m : List Ex, sames l m = true ↔ l.length = m.length ∧ ∀ (j : Nat) (x y : Ex), l[j]? = some x → m[j]? = some y → same x y = true
 | [], [] => by simp [sames]
 | [], y :: m => by simp [sames]
 | x :: l, [] => by simp [sames]
 | x :: l, y :: m => by
  rw [sames, Bool.and_eq_true, sames_iff l m]
  constructor
  ·rintro ⟨h1, h2, h3⟩
   refine ⟨by simp [h2], fun j a b ha hb => ?_⟩
   cases j with
   | zero => simp at ha hb; subst ha hb; exact h1
   | succ j => exact h3 j a b (by simpa using ha) (by simpa using hb)
  ·rintro ⟨h1, h2⟩
   exact ⟨h2 0 x y rfl rfl, by simpa using h1, fun j a b ha hb => h2 (j + 1) a b (by simpa using ha) (by simpa using hb)⟩
end Ex
end Go.Proofs.YtkplkgdfphbldaaGreat
