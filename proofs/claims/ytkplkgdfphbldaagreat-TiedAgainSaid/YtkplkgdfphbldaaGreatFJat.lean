/- What is bound to each other, plainly (chapter 10): fixE, and its laws. -/
import Derived.Test.YtkplkgdfphbldaaGreatFJas
import Derived.Test.YtkplkgdfphbldaaGreatFJar
import Derived.Test.YtkplkgdfphbldaaGreatFJai
import Derived.BigQuiet
import Derived.Deep.QuietTactic
set_option linter.unusedVariables false
set_option linter.unusedSimpArgs false
set_option linter.unnecessarySimpa false
namespace Go.Proofs.YtkplkgdfphbldaaGreat
set_option linter.unusedVariables false
set_option linter.unusedSimpArgs false
namespace Ex
def prim0 (s : ByteArray) : Ex := mk 7 s [] Dt.zero []
def unsetE : Ex := prim0 ⟨#[37, 117, 110, 115, 101, 116]⟩
def setE (n : ByteArray) (k : Ex) : Ex := mk 2 n [] Dt.zero [k]
def seqE (l : List Ex) (d : Ex) : Ex := if l.isEmpty then d else mk 4 ⟨#[]⟩ [] Dt.zero (l ++ [d])
def letE (ns : List ByteArray) (ins : List Ex) (b : Ex) : Ex := if ns.isEmpty then b else mk 8 ⟨#[]⟩ ns Dt.zero (ins ++ [b])
def fixN (ns : List ByteArray) (ks : List Ex) (b : Ex) : Ex := if ns.isEmpty then b else mk 10 ⟨#[]⟩ ns Dt.zero (ks ++ [b])
def tied (A : ByteArray → Bool) (p : ByteArray × Ex) : Bool := decide (p.2.kind = 5) && !A p.1
def tiedL (A : ByteArray → Bool) (l : List (ByteArray × Ex)) : List (ByteArray × Ex) := l.filter (tied A)
def looseL (A : ByteArray → Bool) (l : List (ByteArray × Ex)) : List (ByteArray × Ex) := l.filter fun p => !tied A p
def setsOf (l : List (ByteArray × Ex)) : List Ex := (l.filter fun p => decide (p.2.kind = 5)).map (fun p => setE p.1 p.2) ++ (l.filter fun p => !decide (p.2.kind = 5)).map (fun p => setE p.1 p.2)
def tieE (A : ByteArray → Bool) (l : List (ByteArray × Ex)) (b : Ex) : Ex :=
  letE ((looseL A l).map (·.1)) ((looseL A l).map fun _ => unsetE) (fixN ((tiedL A l).map (·.1)) ((tiedL A l).map (·.2)) (seqE (setsOf (looseL A l)) b))
mutual
def fixE : Ex → Ex
  | mk k n ns c ks =>
    if k = 9 ∨ k = 10 then tieE (assigned (mk k n ns c ks)) (ns.zip (fixL ks)) ((fixL ks)[ns.length]?.getD zero)
    else mk k n ns c (fixL ks)
def fixL : List Ex → List Ex
  | [] => []
  | x :: l => fixE x :: fixL l
end
theorem fixL_map : ∀ l : List Ex, fixL l = l.map fixE
  | [] => rfl
  | x :: l => by rw [fixL, fixL_map l]; rfl
theorem fixE_eq (e : Ex) : fixE e = if e.kind = 9 ∨ e.kind = 10 then tieE (assigned e) (e.names.zip (e.kids.map fixE)) ((e.kids.map fixE)[e.names.length]?.getD zero) else mk e.kind e.name e.names e.const (e.kids.map fixE) := by
  cases e with
  | mk k n ns c ks => rw [fixE, fixL_map]; rfl
theorem form_ties {e : Ex} (h : form e = true) (hk : e.kind = 9 ∨ e.kind = 10) : e.kids.length = e.names.length + 1 ∧ namesB e.names = true ∧ e.name = ⟨#[]⟩ ∧ Dt.same e.const Dt.zero = true ∧ (e.kind = 10 → 1 ≤ e.names.length ∧ ∀ x ∈ e.kids.take e.names.length, x.kind = 5) := by
  unfold form at h
  rcases hk with hk | hk
  · simp [hk] at h
    exact ⟨h.2.2, h.1.2, h.2.1, h.1.1, fun h => by omega⟩
  · simp [hk] at h
    exact ⟨h.2.1.2, h.1.2, h.2.1.1.1, h.1.1, fun _ => ⟨h.2.1.1.2, h.2.2⟩⟩
theorem namesB_iff (l : List ByteArray) : namesB l = true ↔ (∀ s ∈ l, Nm.nameB s = true) ∧ l.Nodup := by
  unfold namesB
  rw [Bool.and_eq_true, List.all_eq_true, decide_eq_true_eq]
theorem namesB_sub {l m : List ByteArray} (hs : List.Sublist m l) (h : namesB l = true) : namesB m = true := by
  rw [namesB_iff] at h ⊢
  exact ⟨fun s hm => h.1 s (hs.subset hm), hs.nodup h.2⟩
theorem zero_same : Dt.same Dt.zero Dt.zero = true := by decide
theorem form_unset : all form unsetE = true := by
  rw [all_iff]
  refine ⟨?_, by simp [unsetE, prim0, kids]⟩
  simp [form, unsetE, prim0, kind_mk, names_mk, kids_mk, const_mk, name_mk, zero_same]
  exact ⟨by decide, by decide⟩
theorem all_mk (F : Ex → Bool) (k : Int) (n : ByteArray) (ns : List ByteArray) (c : Dt) (ks : List Ex) : all F (mk k n ns c ks) = true ↔ F (mk k n ns c ks) = true ∧ ∀ x ∈ ks, all F x = true := all_iff F _
theorem namesB_nil : namesB [] = true := by decide
theorem form_set {n : ByteArray} {k : Ex} (hn : Nm.nameB n = true) (hk : all form k = true) : all form (setE n k) = true := by
  unfold setE
  rw [all_mk]
  refine ⟨?_, by simpa using hk⟩
  simp [form, kind_mk, names_mk, kids_mk, const_mk, name_mk, zero_same, namesB_nil, hn]
theorem form_seq {l : List Ex} {d : Ex} (hl : ∀ x ∈ l, all form x = true) (hd : all form d = true) : all form (seqE l d) = true := by
  unfold seqE
  cases l with
  | nil => exact hd
  | cons y l =>
    rw [List.isEmpty_cons, if_neg (by simp), all_mk]
    refine ⟨by simp [form, kind_mk, names_mk, kids_mk, const_mk, name_mk, zero_same, namesB_nil], fun x hx => ?_⟩
    rcases List.mem_append.1 hx with h | h
    · exact hl x h
    · rw [List.mem_singleton.1 h]; exact hd
theorem form_let {ns : List ByteArray} {ins : List Ex} {b : Ex} (hn : namesB ns = true) (hlen : ins.length = ns.length) (hl : ∀ x ∈ ins, all form x = true) (hb : all form b = true) : all form (letE ns ins b) = true := by
  unfold letE
  split
  · exact hb
  · rw [all_mk]
    refine ⟨by simp [form, kind_mk, names_mk, kids_mk, const_mk, name_mk, zero_same, hn, hlen], fun x hx => ?_⟩
    rcases List.mem_append.1 hx with h | h
    · exact hl x h
    · rw [List.mem_singleton.1 h]; exact hb
theorem form_fix {ns : List ByteArray} {ks : List Ex} {b : Ex} (hn : namesB ns = true) (hlen : ks.length = ns.length) (hk : ∀ x ∈ ks, x.kind = 5) (hl : ∀ x ∈ ks, all form x = true) (hb : all form b = true) : all form (fixN ns ks b) = true := by
  unfold fixN
  split
  · exact hb
  · rename_i h0
    rw [all_mk]
    refine ⟨?_, fun x hx => ?_⟩
    · have : 1 ≤ ns.length := by
        cases ns with
        | nil => simp at h0
        | cons _ _ => simp
      simp [form, kind_mk, names_mk, kids_mk, const_mk, name_mk, zero_same, hn, hlen, this]
      exact hk
    · rcases List.mem_append.1 hx with h | h
      · exact hl x h
      · rw [List.mem_singleton.1 h]; exact hb
theorem zip_fst {ns : List ByteArray} {ks : List Ex} (h : ns.length ≤ ks.length) : (ns.zip ks).map (·.1) = ns := by
  rw [List.map_fst_zip h]
theorem tied_sub (A : ByteArray → Bool) {ns : List ByteArray} {ks : List Ex} (h : ns.length ≤ ks.length) (g : ByteArray × Ex → Bool) : List.Sublist (((ns.zip ks).filter g).map (·.1)) ns := by
  have h1 := (List.filter_sublist (p := g) (l := ns.zip ks)).map (·.1)
  rw [zip_fst h] at h1
  exact h1
theorem mem_setsOf {l : List (ByteArray × Ex)} {x : Ex} : x ∈ setsOf l ↔ ∃ p ∈ l, x = setE p.1 p.2 := by
  unfold setsOf
  simp only [List.mem_append, List.mem_map, List.mem_filter]
  constructor
  · rintro (⟨p, ⟨hp, _⟩, rfl⟩ | ⟨p, ⟨hp, _⟩, rfl⟩)
    · exact ⟨p, hp, rfl⟩
    · exact ⟨p, hp, rfl⟩
  · rintro ⟨p, hp, rfl⟩
    by_cases h : p.2.kind = 5
    · exact .inl ⟨p, ⟨hp, by simp [h]⟩, rfl⟩
    · exact .inr ⟨p, ⟨hp, by simp [h]⟩, rfl⟩
theorem form_tie (A : ByteArray → Bool) {ns : List ByteArray} {ks : List Ex} {b : Ex} (hlen : ns.length ≤ ks.length) (hn : namesB ns = true) (hk : ∀ x ∈ ks, all form x = true) (hb : all form b = true) : all form (tieE A (ns.zip ks) b) = true := by
  have hz : ∀ p ∈ ns.zip ks, p.1 ∈ ns ∧ p.2 ∈ ks := fun p hp => ⟨(List.of_mem_zip hp).1, (List.of_mem_zip hp).2⟩
  have hn' := (namesB_iff ns).1 hn
  refine form_let (namesB_sub (tied_sub A hlen _) hn) (by simp) (fun x hx => ?_) (form_fix (namesB_sub (tied_sub A hlen _) hn) (by simp) (fun x hx => ?_) (fun x hx => ?_) (form_seq (fun x hx => ?_) hb))
  · obtain ⟨p, _, rfl⟩ := List.mem_map.1 hx
    exact form_unset
  · obtain ⟨p, hp, rfl⟩ := List.mem_map.1 hx
    have := (List.mem_filter.1 hp).2
    unfold tied at this
    simp at this
    exact this.1
  · obtain ⟨p, hp, rfl⟩ := List.mem_map.1 hx
    exact hk _ (hz p (List.mem_filter.1 hp).1).2
  · obtain ⟨p, hp, rfl⟩ := mem_setsOf.1 hx
    have hp' := hz p (List.mem_filter.1 hp).1
    exact form_set (hn'.1 _ hp'.1) (hk _ hp'.2)
theorem last_mem {e : Ex} (h : e.kids.length = e.names.length + 1) : ∃ x, e.kids[e.names.length]? = some x ∧ x ∈ e.kids ∧ (e.kids.map fixE)[e.names.length]?.getD zero = fixE x := by
  obtain ⟨x, hx⟩ : ∃ x, e.kids[e.names.length]? = some x := ⟨_, List.getElem?_eq_getElem (by omega)⟩
  exact ⟨x, hx, List.mem_of_getElem? hx, by rw [List.getElem?_map, hx]; rfl⟩
theorem form_fixE (e : Ex) : all form e = true → all form (fixE e) = true := by
  induction e using byKids with
  | h e ih =>
    intro h
    rw [all_iff] at h
    rw [fixE_eq]
    have hk : ∀ y ∈ e.kids.map fixE, all form y = true := fun y hy => by
      obtain ⟨x, hx, rfl⟩ := List.mem_map.1 hy
      exact ih x hx (h.2 x hx)
    split
    · rename_i hkind
      obtain ⟨h1, h2, h3, h4, h5⟩ := form_ties h.1 hkind
      obtain ⟨x, hx, hm, he⟩ := last_mem h1
      rw [he]
      exact form_tie _ (by simp; omega) h2 hk (ih x hm (h.2 x hm))
    · rename_i hkind
      rw [all_mk]
      refine ⟨?_, hk⟩
      have hf := h.1
      unfold form at hf ⊢
      simp only [kind_mk, name_mk, names_mk, const_mk, kids_mk, List.length_map] at hf ⊢
      rw [show (e.kids.map fixE).isEmpty = e.kids.isEmpty by cases e.kids <;> rfl]
      rw [if_neg (show ¬ e.kind = 10 by omega)] at hf ⊢
      exact hf
theorem has_mk (q : Int) (k : Int) (n : ByteArray) (ns : List ByteArray) (c : Dt) (ks : List Ex) : has q (mk k n ns c ks) = true ↔ k = q ∨ ∃ x ∈ ks, has q x = true := has_iff q _
theorem norec_fixE (e : Ex) : all form e = true → has 9 (fixE e) = false := by
  induction e using byKids with
  | h e ih =>
    intro h
    rw [all_iff] at h
    have hk : ∀ y ∈ e.kids.map fixE, ¬ has 9 y = true := fun y hy => by
      obtain ⟨x, hx, rfl⟩ := List.mem_map.1 hy
      rw [ih x hx (h.2 x hx)]
      simp
    rw [← Bool.not_eq_true, fixE_eq]
    split
    · rename_i hkind
      obtain ⟨h1, h2, h3, h4, h5⟩ := form_ties h.1 hkind
      obtain ⟨x, hx, hm, he⟩ := last_mem h1
      rw [he]
      have hb : ¬ has 9 (fixE x) = true := by rw [ih x hm (h.2 x hm)]; simp
      have hz : ∀ p ∈ e.names.zip (e.kids.map fixE), ¬ has 9 p.2 = true := fun p hp => hk _ (List.of_mem_zip hp).2
      have hs : ¬ has 9 (seqE (setsOf (looseL (assigned e) (e.names.zip (e.kids.map fixE)))) (fixE x)) = true := by
        unfold seqE
        split
        · exact hb
        · rw [has_mk]
          rintro (h | ⟨y, hy, h⟩)
          · simp at h
          · rcases List.mem_append.1 hy with hy | hy
            · obtain ⟨p, hp, rfl⟩ := mem_setsOf.1 hy
              unfold setE at h
              rw [has_mk] at h
              rcases h with h | ⟨z, hz', h⟩
              · simp at h
              · rw [List.mem_singleton.1 hz'] at h
                exact hz p (List.mem_filter.1 hp).1 h
            · rw [List.mem_singleton.1 hy] at h
              exact hb h
      have hf : ¬ has 9 (fixN ((tiedL (assigned e) (e.names.zip (e.kids.map fixE))).map (·.1)) ((tiedL (assigned e) (e.names.zip (e.kids.map fixE))).map (·.2)) (seqE (setsOf (looseL (assigned e) (e.names.zip (e.kids.map fixE)))) (fixE x))) = true := by
        unfold fixN
        split
        · exact hs
        · rw [has_mk]
          rintro (h | ⟨y, hy, h⟩)
          · simp at h
          · rcases List.mem_append.1 hy with hy | hy
            · obtain ⟨p, hp, rfl⟩ := List.mem_map.1 hy
              exact hz p (List.mem_filter.1 hp).1 h
            · rw [List.mem_singleton.1 hy] at h
              exact hs h
      unfold tieE letE
      split
      · exact hf
      · rw [has_mk]
        rintro (h | ⟨y, hy, h⟩)
        · simp at h
        · rcases List.mem_append.1 hy with hy | hy
          · obtain ⟨p, hp, rfl⟩ := List.mem_map.1 hy
            revert h
            decide
          · rw [List.mem_singleton.1 hy] at h
            exact hf h
    · rename_i hkind
      rw [has_mk]
      rintro (h | ⟨y, hy, h⟩)
      · omega
      · exact hk y hy h
end Ex
end Go.Proofs.YtkplkgdfphbldaaGreat
namespace Go.Proofs.YtkplkgdfphbldaaGreat
open Go.RowKit
set_option maxRecDepth 100000
set_option linter.unusedVariables false
set_option linter.unusedSimpArgs false
set_option linter.unnecessarySimpa false
def RkPost (r : Nat × Int) (w : World) (e : Ending) (w' : World) : Prop := e = .returned (.tuple #[.int .i64 r.1, .int .i64 r.2]) ∧ Below w.heap.size w w'
set_option maxHeartbeats 8000000 in
set_option maxRecDepth 100000 in
theorem rchk_step (k i : Int) (t : ByteArray) (l : List Dt) (deep seen : Nat) (v : Value) (w : World) (hdp : deep ≤ 32) (hsn : seen ≤ 4096) (hd : DtAt w (fun _ => True) v (.mk k i t l)) (hf : Dt.Fit (.mk k i t l))
    (IH : ∀ x ∈ l, ∀ (vx : Value) (w1 : World) (deep' seen' : Nat), deep' ≤ 32 → seen' ≤ 4096 → DtAt w1 (fun _ => True) vx x → Calls Tryz.prog 89 #[vx, .int .i64 deep', .int .i64 seen'] w1 (RkPost (Dt.chk x deep' seen') w1)) :
    Calls Tryz.prog 89 #[v, .int .i64 deep, .int .i64 seen] w (RkPost (Dt.chk (.mk k i t l) deep seen) w) := by
  obtain ⟨a, c, rfl, _⟩ := hd.inv
  simp only [Dt.kind_mk, Dt.int_mk, Dt.text_mk, Dt.list_mk] at hd ⊢
  obtain ⟨ht, hl⟩ : t.size ≤ maxLen ∧ l.length ≤ 9223372036854775807 := by cases hf; exact ⟨by assumption, by assumption⟩
  rw [Dt.chk]
  by_cases h0 : seen = 4096
  · subst h0
    rw [if_pos rfl]
    clear hd hf IH ht hl
    go_enter Tryz.func89, Tryz.ntmps89
    go_wp2_with fail
    go_ret2
    exact ⟨rfl, (Below.refl _ _).alloc (Nat.le_refl _) _⟩
  · rw [if_neg h0]
    have g1 : ((seen : Int) == 4096) = false := beq_eq_false_iff_ne.2 (by omega)
    have g2 : (seen : Int) ≤ 4096 := by omega
    have g3 : (0 : Int) ≤ seen := by omega
    have HB1 := Lib.hid ((Below.refl w.heap.size w).alloc (Nat.le_refl _) (.cells #[.int .i64 k, .int .i64 i, .string t, .slice a l.length c] 25))
    have HX1 := Lib.hid (show Cell4 w.heap.size _ _ _ _ _ from new4 w (.int .i64 k) (.int .i64 i) (.string t) (.slice a l.length c) 25)
    have HD := Lib.hid hd
    have HF : Hid (∀ w1 : World, Below w.heap.size w w1 → Calls Tryz.prog 109 #[.agg #[.int .i64 k, .int .i64 i, .string t, .slice a l.length c]] w1 (FormPost (Dt.formB k i t l) w1)) := fun w1 h1 => rform_any k i t ht a l hl c w1 (hd.bel h1 (Nat.le_refl _))
    have HI : Hid (∀ w1 : World, Calls Tryz.prog 108 #[.agg #[.int .i64 k, .int .i64 i, .string t, .slice a l.length c]] w1 fun e w' => e = .returned (.bool (decide (5 ≤ k) && decide (k ≤ 7))) ∧ Below w1.heap.size w1 w') := fun w1 => ritems_any k i t a l.length c w1
    have HIH := Lib.hid IH
    have HN : Hid (seen ≠ 4096) := h0
    have HSN := Lib.hid hsn
    unfold FormPost at HF
    clear hd hf IH ht hl h0 hsn
    generalize hit : (decide (5 ≤ k) && decide (k ≤ 7)) = it at *
    by_cases h1 : (it && decide (deep = 32)) = true
    · rw [if_pos h1]
      rw [Bool.and_eq_true, decide_eq_true_eq] at h1
      obtain ⟨rfl, rfl⟩ := h1
      clear hit
      go_enter Tryz.func89, Tryz.ntmps89
      go_wp2_with fail
      with_reducible refine (HI.out _).mono ?_
      rintro e w2 ⟨rfl, hb2⟩
      have HB2 := Lib.hid (HB1.out.trans (hb2.mono HB1.out.size))
      clear hb2
      go_wp2_with fail
      go_ret2
      exact ⟨rfl, HB2.out⟩
    · rw [if_neg h1]
      have hor : it = false ∨ (it = true ∧ ((deep : Int) == 32) = false ∧ deep < 32) := by
        cases it with
        | false => exact .inl rfl
        | true =>
          have h2 : ¬ deep = 32 := by simpa using h1
          exact .inr ⟨rfl, beq_eq_false_iff_ne.2 (by omega), by omega⟩
      have HOR := Lib.hid hor
      have HIT := Lib.hid hit
      clear h1 hit hor
      cases hfb : Dt.formB k i t l with
      | false =>
        rw [hfb] at HF
        clear hfb
        rcases HOR.out with rfl | ⟨rfl, v1, _⟩
        all_goals
          go_enter Tryz.func89, Tryz.ntmps89
          go_wp2_with fail
          with_reducible refine (HI.out _).mono ?_
          rintro e w2 ⟨rfl, hb2⟩
          have HB2 := Lib.hid (HB1.out.trans (hb2.mono HB1.out.size))
          obtain ⟨q0, q1, q2, q3⟩ := HX1.out.below hb2 (by simp)
          clear hb2
          go_wp2_with fail
          with_reducible refine (HF.out _ HB2.out).mono ?_
          rintro e w3 ⟨rfl, hb3⟩
          have HB3 := Lib.hid (HB2.out.trans (hb3.mono HB2.out.size))
          clear hb3
          go_wp2_with fail
          go_ret2
          exact ⟨rfl, HB3.out⟩
      | true =>
        have HL : Hid (l ≠ [] → deep < 32) := fun hne => by
          rcases HOR.out with e | ⟨_, _, h⟩
          · have := Dt.form_items hfb hne
            rw [HIT.out, e] at this
            cases this
          · exact h
        rw [hfb] at HF
        clear hfb
        rw [if_pos rfl]
        rcases HOR.out with rfl | ⟨rfl, v1, _⟩
        all_goals
          go_enter Tryz.func89, Tryz.ntmps89
          go_wp2_with fail
          with_reducible refine (HI.out _).mono ?_
          rintro e w2 ⟨rfl, hb2⟩
          have HB2 := Lib.hid (HB1.out.trans (hb2.mono HB1.out.size))
          have HX2 := Lib.hid (HX1.out.below hb2 (by simp))
          obtain ⟨q0, q1, q2, q3⟩ := HX2.out
          have hs2 : w.heap.size < w2.heap.size := by have := hb2.size; simp at this; omega
          clear hb2
          go_wp2_with fail
          with_reducible refine (HF.out _ HB2.out).mono ?_
          rintro e w3 ⟨rfl, hb3⟩
          have HB3 := Lib.hid (HB2.out.trans (hb3.mono HB2.out.size))
          have HX3 := Lib.hid (HX2.out.below hb3 hs2)
          have hs3 : w.heap.size < w3.heap.size := Nat.lt_of_lt_of_le hs2 hb3.size
          clear hb3 q0 q1 q2 q3
          go_wp2_with fail
          go_loopg [2, 8, 9] l.length (fun gk s2 s8 s9 wx => ∃ (n sk : Nat), n ≤ l.length ∧ gk = l.length - n ∧ s9 = .int .i64 n ∧ s8 = .int .i64 0 ∧ s2 = .int .i64 sk ∧ Hid (Below w.heap.size w wx ∧ Cell4 w.heap.size (.int .i64 k) (.int .i64 i) (.string t) (.slice a l.length c) wx ∧ w.heap.size < wx.heap.size) ∧ Hid (Dt.chks (l.take n) (deep + 1) (seen + 1) = (sk, 0)))
          case atStart => exact ⟨0, seen + 1, Nat.zero_le _, rfl, rfl, rfl, by go_num, ⟨HB3.out, HX3.out, hs3⟩, rfl⟩
          case round =>
            obtain ⟨n, sk, hn, rfl, rfl, rfl, rfl, HKR, HT⟩ := hrel
            obtain ⟨q0, q1, q2, q3⟩ := HKR.out.2.1
            by_cases hlt2 : n < l.length
            · obtain ⟨x, hx⟩ : ∃ x, l[n]? = some x := ⟨_, List.getElem?_eq_getElem hlt2⟩
              have hsk := Dt.chks_le (l.take n) (deep + 1) (seen + 1) (by have := HSN.out; have := HN.out; omega)
              rw [HT.out] at hsk
              obtain ⟨hsk1, hsk2, hsk3⟩ := hsk
              have hnk : n ≤ sk := by
                have h4 := hsk3 rfl
                have h5 := Dt.nodess_len (l.take n)
                simp [Nat.min_eq_left hn] at h5
                omega
              have hdp2 : deep + 1 ≤ 32 := by have := HL.out (fun e => by rw [e] at hx; simp at hx); omega
              obtain ⟨ad, cd, hv, h0 | ⟨b1, o1, ha1, hb1, _, hat⟩⟩ := (HD.out.bel HKR.out.1 (Nat.le_refl _)).inv
              · simp only [Dt.list_mk] at h0
                rw [h0.2.2] at hx; simp at hx
              simp only [Dt.kind_mk, Dt.int_mk, Dt.text_mk, Dt.list_mk] at hv hat
              obtain rfl : a = ad := by simpa using (by simpa using hv : a = ad ∧ c = cd).1
              subst ha1
              obtain ⟨lx, d0, d1, d2, d3, hdx⟩ := hat n x hx
              obtain ⟨ax, cx, rfl⟩ := hdx.slice
              have hg1 : (0 : Int) ≤ n := by omega
              have hg2 : (n : Int) < l.length := by omega
              have hgw : IntKind.i64.wrap ((n : Int) + 1) = n + 1 := by rw [IntKind.wrap_i64]; omega
              have hgd : IntKind.i64.wrap ((deep : Int) + 1) = deep + 1 := by rw [IntKind.wrap_i64]; omega
              have hcall := HIH.out x (List.mem_of_getElem? hx) _ _ (deep + 1) sk hdp2 hsk2 hdx
              have HCALL : Hid (Calls Tryz.prog 89 #[.agg #[.int .i64 x.kind, .int .i64 x.int, .string x.text, .slice ax x.list.length cx], .int .i64 ((deep : Int) + 1), .int .i64 sk] wr (RkPost (Dt.chk x (deep + 1) sk) wr)) := hcall
              have HX := Lib.hid hx
              clear hat hdx hcall hx hv hsk1 hsk2 hsk3
              by_cases hz : (Dt.chk x (deep + 1) sk).2 = 0
              · have HZ := Lib.hid hz
                have HT2 := Lib.hid (Dt.chks_step HX.out HT.out hz)
                generalize Dt.chk x (deep + 1) sk = rr at *
                obtain ⟨r1, r2⟩ := rr
                dsimp only at *
                subst hz
                go_wp2_with fail
                with_reducible refine (HCALL.out).mono ?_
                rintro e w5 ⟨rfl, hb5⟩
                have HK5 : Hid (Below w.heap.size w w5 ∧ Cell4 w.heap.size (.int .i64 k) (.int .i64 i) (.string t) (.slice (some ⟨b1, o1, none⟩) l.length c) w5 ∧ w.heap.size < w5.heap.size) := ⟨HKR.out.1.trans (hb5.mono HKR.out.1.size), HKR.out.2.1.below hb5 HKR.out.2.2, Nat.lt_of_lt_of_le HKR.out.2.2 hb5.size⟩
                clear hb5
                go_wp2_with fail
                go_roundg (l.length - (n + 1))
                case measure => omega
                case rel => exact ⟨n + 1, _, by omega, rfl, by go_num, rfl, rfl, HK5.out, HT2.out⟩
              · have HT2 := Lib.hid (Dt.chks_stop HX.out HT.out hz)
                generalize Dt.chk x (deep + 1) sk = rr at *
                obtain ⟨r1, r2⟩ := rr
                dsimp only at *
                have z1 : (r2 != 0) = true := by simpa using hz
                clear hz
                go_wp2_with fail
                with_reducible refine (HCALL.out).mono ?_
                rintro e w5 ⟨rfl, hb5⟩
                have HB5 := Lib.hid (HKR.out.1.trans (hb5.mono HKR.out.1.size))
                clear hb5
                go_wp2_with fail
                go_ret2
                rw [HT2.out]
                exact ⟨rfl, HB5.out⟩
            · obtain rfl : l.length = n := by omega
              go_wp2_with fail
              go_ret2
              have hT := HT.out
              rw [List.take_length] at hT
              rw [hT]
              exact ⟨rfl, HKR.out.1⟩
theorem rchk_n : ∀ (n : Nat) (d : Dt) (v : Value) (deep seen : Nat) (w : World), d.depth ≤ n → deep ≤ 32 → seen ≤ 4096 → DtAt w (fun _ => True) v d → Dt.Fit d → Calls Tryz.prog 89 #[v, .int .i64 deep, .int .i64 seen] w (RkPost (Dt.chk d deep seen) w)
  | 0, d, v, deep, seen, w, hn, _, _, _, _ => by
    rw [Dt.depth_list] at hn
    omega
  | n + 1, d, v, deep, seen, w, hn, h1, h2, h3, h4 => by
    rw [Dt.depth_list] at hn
    obtain ⟨k, i, t, l⟩ := d
    refine rchk_step k i t l deep seen v w h1 h2 h3 h4 fun x hx vx w1 deep' seen' g1 g2 g3 => rchk_n n x vx deep' seen' w1 ?_ g1 g2 g3 (h4.of hx)
    have := Dt.depth_mem _ x hx
    simp only [Dt.list_mk] at hn
    omega
theorem rcheck_any (d : Dt) (v : Value) (w : World) (hd : DtAt w (fun _ => True) v d) (hf : Dt.Fit d) : Calls Tryz.prog 68 #[v] w fun e w' => e = .returned (.int .i64 d.chkE) ∧ Below w.heap.size w w' := by
  have HC : Hid (∀ (w1 : World), Below w.heap.size w w1 → Calls Tryz.prog 89 #[v, .int .i64 0, .int .i64 0] w1 (RkPost (Dt.chk d 0 0) w1)) := fun w1 h2 => rchk_n d.depth d v 0 0 w1 (Nat.le_refl _) (by omega) (by omega) (hd.bel h2 (Nat.le_refl _)) hf
  obtain ⟨a, c, rfl, _⟩ := hd.inv
  unfold Dt.chkE
  clear hd hf
  go_enter Tryz.func68, Tryz.ntmps68
  go_wp2_with fail
  with_reducible refine (HC.out _ ((Below.refl _ _).alloc (Nat.le_refl _) _)).mono ?_
  rintro e w2 ⟨rfl, hb⟩
  have HB := Lib.hid hb
  clear hb
  go_wp2_with fail
  go_ret
  exact ⟨rfl, ((Below.refl _ _).alloc (Nat.le_refl _) _).trans (HB.out.mono (by simp))⟩
end Go.Proofs.YtkplkgdfphbldaaGreat
namespace Go.Proofs.YtkplkgdfphbldaaGreat
open Go.RowKit
set_option maxRecDepth 100000
set_option linter.unusedVariables false
set_option linter.unusedSimpArgs false
set_option linter.unnecessarySimpa false
namespace Hp
end Hp
structure Zer3 (w : World) (g : Nat) : Prop where
  c0 : w.cell? ⟨g, 0, none⟩ = some (.int .i64 0)
  c1 : w.cell? ⟨g, 1, none⟩ = some (.int .i64 0)
  c2 : w.cell? ⟨g, 2, none⟩ = some (.string ⟨#[]⟩)
  f0 : w.frozen? ⟨g, 0, none⟩ = false
  f1 : w.frozen? ⟨g, 1, none⟩ = false
  f2 : w.frozen? ⟨g, 2, none⟩ = false
theorem Zer3.of {w : World} {g : Nat} {t : TypeId} (h : w.heap[g]? = some (.cells #[.int .i64 0, .int .i64 0, .string ⟨#[]⟩] t (0, 0))) : Zer3 w g :=
  ⟨cell_of_row w _ 0 _ _ _ h, cell_of_row w _ 1 _ _ _ h, cell_of_row w _ 2 _ _ _ h, frozen_of_row w _ 0 _ _ h, frozen_of_row w _ 1 _ _ h, frozen_of_row w _ 2 _ _ h⟩
end Go.Proofs.YtkplkgdfphbldaaGreat
namespace Go.Proofs.YtkplkgdfphbldaaGreat
open Go.RowKit
set_option maxRecDepth 100000
set_option linter.unusedVariables false
set_option linter.unusedSimpArgs false
set_option linter.unnecessarySimpa false
def constF (d : Dt) : Hp.V × Bool :=
  if d.chkE ≠ 0 then (Hp.none, false) else if d.kind = 0 then (⟨0, d.int, ⟨#[]⟩⟩, true) else if d.kind = 1 then (⟨1, d.int, ⟨#[]⟩⟩, true) else if d.kind = 2 then (⟨2, d.int, ⟨#[]⟩⟩, true)
  else if d.kind = 4 then (⟨3, 0, d.text⟩, true) else if d.kind = 5 ∧ d.list = [] then (⟨4, 0, ⟨#[]⟩⟩, true) else (Hp.none, false)
def CnPost (r : Hp.V × Bool) (w : World) (e : Ending) (w' : World) : Prop := e = .returned (.tuple #[.agg #[.int .i64 r.1.kind, .int .i64 r.1.int, .string r.1.text], .bool r.2]) ∧ Below w.heap.size w w'
theorem cn_rows {w w3 : World} {a b c d : Value} (hb : Below ((w.alloc (.cells #[a, b, c, d] 25)).alloc (.cells #[.int .i64 0, .int .i64 0, .string ⟨#[]⟩] 78)).heap.size ((w.alloc (.cells #[a, b, c, d] 25)).alloc (.cells #[.int .i64 0, .int .i64 0, .string ⟨#[]⟩] 78)) w3) :
    Below w.heap.size w w3 ∧ Cell4 w.heap.size a b c d w3 ∧ w3.heap[w.heap.size + 1]? = some (.cells #[.int .i64 0, .int .i64 0, .string ⟨#[]⟩] 78 (0, 0)) := by
  refine ⟨(((Below.refl _ _).alloc (Nat.le_refl _) _).alloc (by simp) _).trans (hb.mono (by simp; omega)), ?_, (hb.block _ (by simp)).trans (heap_new (by simp))⟩
  have h := new4 w a b c d 25
  exact (Cell4.same (w := w.alloc (.cells #[a, b, c, d] 25)) h (heap_alloc_old _ _ (by simp))).below hb (by simp; omega)
set_option maxHeartbeats 8000000 in
theorem rconst_any (d : Dt) (v : Value) (w : World) (hd : DtAt w (fun _ => True) v d) (hf : Dt.Fit d) : Calls Tryz.prog 90 #[v] w (CnPost (constF d) w) := by
  have HC : Hid (∀ (w1 : World), Below w.heap.size w w1 → Calls Tryz.prog 68 #[v] w1 fun e w' => e = .returned (.int .i64 d.chkE) ∧ Below w1.heap.size w1 w') := fun w1 hb => rcheck_any d v w1 (hd.bel hb (Nat.le_refl _)) hf
  obtain ⟨a, c, rfl, hnil⟩ := hd.inv
  have hnil2 : d.list = [] ∨ True := .inr trivial
  clear hd hf hnil hnil2
  unfold CnPost
  obtain ⟨k, i, t, l⟩ := d
  simp only [Dt.kind_mk, Dt.int_mk, Dt.text_mk, Dt.list_mk] at *
  by_cases hE : (Dt.mk k i t l).chkE = 0
  · rw [hE] at HC
    rcases (by omega : k = 0 ∨ k = 1 ∨ k = 2 ∨ k = 4 ∨ k = 5 ∨ (¬ k = 0 ∧ ¬ k = 1 ∧ ¬ k = 2 ∧ ¬ k = 4 ∧ ¬ k = 5)) with rfl | rfl | rfl | rfl | rfl | hk
    · skip
      have HR : Hid (constF (.mk 0 i t l) = (⟨0, i, ⟨#[]⟩⟩, true)) := Lib.hid (by simp [constF, Dt.kind_mk, Dt.int_mk, Dt.text_mk, Dt.list_mk, hE])
      rw [HR.out]
      clear hE
      go_enter Tryz.func90, Tryz.ntmps90
      go_wp2_with fail
      with_reducible refine (HC.out _ ((((Below.refl _ _).alloc (Nat.le_refl _) _).alloc (by simp) _))).mono ?_
      rintro e w3 ⟨rfl, hb3⟩
      obtain ⟨hB3, ⟨q0, q1, q2, q3⟩, hz3⟩ := cn_rows hb3
      obtain ⟨z0, z1, z2, y0, y1, y2⟩ := Zer3.of hz3
      have HB3 := Lib.hid hB3
      have HZ3 := Lib.hid hz3
      clear hb3 hB3 hz3
      go_wp2_with fail
      refine bodyPost_ret (res2 rfl _ _ (w.heap.size + 1) 78 _ (0, 0) rfl (three_set _ _ _ _ _ _ _ _ _ HZ3.out) valD valSize) rfl ?_
      exact ⟨rfl, ((HB3.out.setCell (p := ⟨w.heap.size + 1, 0, none⟩) (by simp) _).setCell (p := ⟨w.heap.size + 1, 1, none⟩) (by simp) _).setCell (p := ⟨w.heap.size + 1, 2, none⟩) (by simp) _⟩
    · skip
      have HR : Hid (constF (.mk 1 i t l) = (⟨1, i, ⟨#[]⟩⟩, true)) := Lib.hid (by simp [constF, Dt.kind_mk, Dt.int_mk, Dt.text_mk, Dt.list_mk, hE])
      rw [HR.out]
      clear hE
      go_enter Tryz.func90, Tryz.ntmps90
      go_wp2_with fail
      with_reducible refine (HC.out _ ((((Below.refl _ _).alloc (Nat.le_refl _) _).alloc (by simp) _))).mono ?_
      rintro e w3 ⟨rfl, hb3⟩
      obtain ⟨hB3, ⟨q0, q1, q2, q3⟩, hz3⟩ := cn_rows hb3
      obtain ⟨z0, z1, z2, y0, y1, y2⟩ := Zer3.of hz3
      have HB3 := Lib.hid hB3
      have HZ3 := Lib.hid hz3
      clear hb3 hB3 hz3
      go_wp2_with fail
      refine bodyPost_ret (res2 rfl _ _ (w.heap.size + 1) 78 _ (0, 0) rfl (three_set _ _ _ _ _ _ _ _ _ HZ3.out) valD valSize) rfl ?_
      exact ⟨rfl, ((HB3.out.setCell (p := ⟨w.heap.size + 1, 0, none⟩) (by simp) _).setCell (p := ⟨w.heap.size + 1, 1, none⟩) (by simp) _).setCell (p := ⟨w.heap.size + 1, 2, none⟩) (by simp) _⟩
    · skip
      have HR : Hid (constF (.mk 2 i t l) = (⟨2, i, ⟨#[]⟩⟩, true)) := Lib.hid (by simp [constF, Dt.kind_mk, Dt.int_mk, Dt.text_mk, Dt.list_mk, hE])
      rw [HR.out]
      clear hE
      go_enter Tryz.func90, Tryz.ntmps90
      go_wp2_with fail
      with_reducible refine (HC.out _ ((((Below.refl _ _).alloc (Nat.le_refl _) _).alloc (by simp) _))).mono ?_
      rintro e w3 ⟨rfl, hb3⟩
      obtain ⟨hB3, ⟨q0, q1, q2, q3⟩, hz3⟩ := cn_rows hb3
      obtain ⟨z0, z1, z2, y0, y1, y2⟩ := Zer3.of hz3
      have HB3 := Lib.hid hB3
      have HZ3 := Lib.hid hz3
      clear hb3 hB3 hz3
      go_wp2_with fail
      refine bodyPost_ret (res2 rfl _ _ (w.heap.size + 1) 78 _ (0, 0) rfl (three_set _ _ _ _ _ _ _ _ _ HZ3.out) valD valSize) rfl ?_
      exact ⟨rfl, ((HB3.out.setCell (p := ⟨w.heap.size + 1, 0, none⟩) (by simp) _).setCell (p := ⟨w.heap.size + 1, 1, none⟩) (by simp) _).setCell (p := ⟨w.heap.size + 1, 2, none⟩) (by simp) _⟩
    · skip
      have HR : Hid (constF (.mk 4 i t l) = (⟨3, 0, t⟩, true)) := Lib.hid (by simp [constF, Dt.kind_mk, Dt.int_mk, Dt.text_mk, Dt.list_mk, hE])
      rw [HR.out]
      clear hE
      go_enter Tryz.func90, Tryz.ntmps90
      go_wp2_with fail
      with_reducible refine (HC.out _ ((((Below.refl _ _).alloc (Nat.le_refl _) _).alloc (by simp) _))).mono ?_
      rintro e w3 ⟨rfl, hb3⟩
      obtain ⟨hB3, ⟨q0, q1, q2, q3⟩, hz3⟩ := cn_rows hb3
      obtain ⟨z0, z1, z2, y0, y1, y2⟩ := Zer3.of hz3
      have HB3 := Lib.hid hB3
      have HZ3 := Lib.hid hz3
      clear hb3 hB3 hz3
      go_wp2_with fail
      refine bodyPost_ret (res2 rfl _ _ (w.heap.size + 1) 78 _ (0, 0) rfl (three_set _ _ _ _ _ _ _ _ _ HZ3.out) valD valSize) rfl ?_
      exact ⟨rfl, ((HB3.out.setCell (p := ⟨w.heap.size + 1, 0, none⟩) (by simp) _).setCell (p := ⟨w.heap.size + 1, 1, none⟩) (by simp) _).setCell (p := ⟨w.heap.size + 1, 2, none⟩) (by simp) _⟩
    · by_cases hl : l = []
      · subst hl
        simp only [List.length_nil] at HC ⊢
        have HR : Hid (constF (.mk 5 i t []) = (⟨4, 0, ⟨#[]⟩⟩, true)) := Lib.hid (by simp [constF, Dt.kind_mk, Dt.int_mk, Dt.text_mk, Dt.list_mk, hE])
        rw [HR.out]
        clear hE
        go_enter Tryz.func90, Tryz.ntmps90
        go_wp2_with fail
        with_reducible refine (HC.out _ ((((Below.refl _ _).alloc (Nat.le_refl _) _).alloc (by simp) _))).mono ?_
        rintro e w3 ⟨rfl, hb3⟩
        obtain ⟨hB3, ⟨q0, q1, q2, q3⟩, hz3⟩ := cn_rows hb3
        obtain ⟨z0, z1, z2, y0, y1, y2⟩ := Zer3.of hz3
        have HB3 := Lib.hid hB3
        have HZ3 := Lib.hid hz3
        clear hb3 hB3 hz3
        go_wp2_with fail
        refine bodyPost_ret (res2 rfl _ _ (w.heap.size + 1) 78 _ (0, 0) rfl (three_set _ _ _ _ _ _ _ _ _ HZ3.out) valD valSize) rfl ?_
        exact ⟨rfl, ((HB3.out.setCell (p := ⟨w.heap.size + 1, 0, none⟩) (by simp) _).setCell (p := ⟨w.heap.size + 1, 1, none⟩) (by simp) _).setCell (p := ⟨w.heap.size + 1, 2, none⟩) (by simp) _⟩
      · obtain ⟨l1, l2, l3⟩ := list_facts hl
        have l4 : (l.length == 0) = false := beq_eq_false_iff_ne.2 l2
        have l5 : ((l.length : Int) == 0) = false := beq_eq_false_iff_ne.2 (by omega)
        have HR : Hid (constF (.mk 5 i t l) = (⟨0, 0, ⟨#[]⟩⟩, false)) := Lib.hid (by simp [constF, Dt.kind_mk, Dt.int_mk, Dt.text_mk, Dt.list_mk, hE, hl, Hp.none])
        rw [HR.out]
        clear hE l3 hl
        go_enter Tryz.func90, Tryz.ntmps90
        go_wp2_with fail
        with_reducible refine (HC.out _ ((((Below.refl _ _).alloc (Nat.le_refl _) _).alloc (by simp) _))).mono ?_
        rintro e w3 ⟨rfl, hb3⟩
        obtain ⟨hB3, ⟨q0, q1, q2, q3⟩, hz3⟩ := cn_rows hb3
        obtain ⟨z0, z1, z2, y0, y1, y2⟩ := Zer3.of hz3
        have HB3 := Lib.hid hB3
        have HZ3 := Lib.hid hz3
        clear hb3 hB3 hz3
        go_wp2_with fail
        refine bodyPost_ret (res2 rfl _ _ (w.heap.size + 1) 78 _ (0, 0) rfl (three_set _ _ _ _ _ _ _ _ _ HZ3.out) valD valSize) rfl ?_
        exact ⟨rfl, ((HB3.out.setCell (p := ⟨w.heap.size + 1, 0, none⟩) (by simp) _).setCell (p := ⟨w.heap.size + 1, 1, none⟩) (by simp) _).setCell (p := ⟨w.heap.size + 1, 2, none⟩) (by simp) _⟩
    · obtain ⟨k0, k1, k2, k4, k5⟩ := hk
      have j0 : (k == 0) = false := beq_eq_false_iff_ne.2 k0
      have j1 : (k == 1) = false := beq_eq_false_iff_ne.2 k1
      have j2 : (k == 2) = false := beq_eq_false_iff_ne.2 k2
      have j4 : (k == 4) = false := beq_eq_false_iff_ne.2 k4
      have j5 : (k == 5) = false := beq_eq_false_iff_ne.2 k5
      have HR : Hid (constF (.mk k i t l) = (⟨0, 0, ⟨#[]⟩⟩, false)) := Lib.hid (by simp [constF, Dt.kind_mk, Dt.int_mk, Dt.text_mk, Dt.list_mk, hE, k0, k1, k2, k4, k5, Hp.none])
      rw [HR.out]
      clear hE k0 k1 k2 k4 k5
      go_enter Tryz.func90, Tryz.ntmps90
      go_wp2_with fail
      with_reducible refine (HC.out _ ((((Below.refl _ _).alloc (Nat.le_refl _) _).alloc (by simp) _))).mono ?_
      rintro e w3 ⟨rfl, hb3⟩
      obtain ⟨hB3, ⟨q0, q1, q2, q3⟩, hz3⟩ := cn_rows hb3
      obtain ⟨z0, z1, z2, y0, y1, y2⟩ := Zer3.of hz3
      have HB3 := Lib.hid hB3
      have HZ3 := Lib.hid hz3
      clear hb3 hB3 hz3
      go_wp2_with fail
      refine bodyPost_ret (res2 rfl _ _ (w.heap.size + 1) 78 _ (0, 0) rfl (three_set _ _ _ _ _ _ _ _ _ HZ3.out) valD valSize) rfl ?_
      exact ⟨rfl, ((HB3.out.setCell (p := ⟨w.heap.size + 1, 0, none⟩) (by simp) _).setCell (p := ⟨w.heap.size + 1, 1, none⟩) (by simp) _).setCell (p := ⟨w.heap.size + 1, 2, none⟩) (by simp) _⟩
  · have hE2 : ((Dt.mk k i t l).chkE != 0) = true := by simpa using hE
    have HR : Hid (constF (.mk k i t l) = (⟨0, 0, ⟨#[]⟩⟩, false)) := Lib.hid (by simp [constF, Dt.kind_mk, Dt.int_mk, Dt.text_mk, Dt.list_mk, hE, Hp.none])
    rw [HR.out]
    generalize (Dt.mk k i t l).chkE = E at *
    clear HR hE
    go_enter Tryz.func90, Tryz.ntmps90
    go_wp2_with fail
    with_reducible refine (HC.out _ ((((Below.refl _ _).alloc (Nat.le_refl _) _).alloc (by simp) _))).mono ?_
    rintro e w3 ⟨rfl, hb3⟩
    obtain ⟨hB3, ⟨q0, q1, q2, q3⟩, hz3⟩ := cn_rows hb3
    obtain ⟨z0, z1, z2, y0, y1, y2⟩ := Zer3.of hz3
    have HB3 := Lib.hid hB3
    have HZ3 := Lib.hid hz3
    clear hb3 hB3 hz3
    go_wp2_with fail
    refine bodyPost_ret (res2 rfl _ _ (w.heap.size + 1) 78 _ (0, 0) rfl (three_set _ _ _ _ _ _ _ _ _ HZ3.out) valD valSize) rfl ?_
    exact ⟨rfl, ((HB3.out.setCell (p := ⟨w.heap.size + 1, 0, none⟩) (by simp) _).setCell (p := ⟨w.heap.size + 1, 1, none⟩) (by simp) _).setCell (p := ⟨w.heap.size + 1, 2, none⟩) (by simp) _⟩
end Go.Proofs.YtkplkgdfphbldaaGreat
namespace Go.Proofs.YtkplkgdfphbldaaGreat
open Go.RowKit
set_option maxRecDepth 100000
set_option linter.unusedVariables false
set_option linter.unusedSimpArgs false
namespace Hp
structure Good (n : Nat) (T : List Th) : Prop where
  len : T.length ≤ n
  few : ∀ t ∈ T, t.parts.length ≤ 1000
  text : ∀ t ∈ T, ∀ p ∈ t.parts, p.text.size ≤ maxLen
theorem Good.mono {n k : Nat} {T : List Th} (h : Good n T) (hn : n ≤ k) : Good k T := ⟨Nat.le_trans h.len hn, h.few, h.text⟩
end Hp
end Go.Proofs.YtkplkgdfphbldaaGreat
namespace Go.Proofs.YtkplkgdfphbldaaGreat
open Go.RowKit
set_option maxRecDepth 100000
set_option linter.unusedVariables false
set_option linter.unusedSimpArgs false
namespace Hp
theorem may_mono {n k : Nat} {v : V} (h : may n v = true) (hn : n ≤ k) : may k v = true := by
  unfold may at *
  split
  · rename_i h3
    rw [if_pos h3] at h
    exact h
  · rename_i h3
    rw [if_neg h3] at h
    by_cases h8 : v.kind = 8
    · simp [h8] at h ⊢
      exact ⟨h.1, h.2.1, by omega⟩
    · simp [h8] at h ⊢
      exact h
structure WfTh (n : Nat) (t : Th) : Prop where
  kind : t.kind = 0 ∨ t.kind = 1 ∨ t.kind = 2 ∨ t.kind = 3 ∨ t.kind = 4
  pair : t.kind = 0 → t.parts.length = 2
  box : t.kind = 3 → t.parts.length = 1
  len : t.parts.length ≤ 1000
  may : ∀ p ∈ t.parts, Hp.may n p = true
theorem WfTh.mono {n k : Nat} {t : Th} (h : WfTh n t) (hn : n ≤ k) : WfTh k t := ⟨h.kind, h.pair, h.box, h.len, fun p hp => may_mono (h.may p hp) hn⟩
end Hp
end Go.Proofs.YtkplkgdfphbldaaGreat
namespace Go.Proofs.YtkplkgdfphbldaaGreat
open Go.RowKit
set_option linter.unusedVariables false
set_option linter.unusedSimpArgs false
def strs (l : List ByteArray) : List Value := l.map Value.string
def exV (k : Int) (n : ByteArray) (nv : Value) (c : Dt) (dl kv : Value) : Value := .agg #[.int .i64 k, .string n, nv, .int .i64 c.kind, .int .i64 c.int, .string c.text, dl, kv]
def RoomOk (v : Value) : Prop := ∃ a n c, v = .slice a n c ∧ n ≤ c
inductive ExAt (w : World) : Value → Ex → Prop
  | nil (k : Int) (n : ByteArray) (l : List ByteArray) (c : Dt) (nv dl : Value) {a : Option Addr} {q : Nat} (hn : Sl w nv (strs l)) (hd : DtAt w (fun _ => True) (.agg #[.int .i64 c.kind, .int .i64 c.int, .string c.text, dl]) c) (hr : RoomOk nv) :
      ExAt w (exV k n nv c dl (.slice a 0 q)) (.mk k n l c [])
  | row (k : Int) (n : ByteArray) (l : List ByteArray) (c : Dt) (nv dl : Value) (ks : List Ex) (b off q : Nat) (nvs dls kvs : Nat → Value) (hn : Sl w nv (strs l)) (hd : DtAt w (fun _ => True) (.agg #[.int .i64 c.kind, .int .i64 c.int, .string c.text, dl]) c) (hr : RoomOk nv) (hb : b < w.heap.size) (hq : ks.length ≤ q)
      (hc : ∀ j x, ks[j]? = some x → w.cell? ⟨b, off + j * 8, none⟩ = some (.int .i64 x.kind) ∧ w.cell? ⟨b, off + j * 8 + 1, none⟩ = some (.string x.name) ∧ w.cell? ⟨b, off + j * 8 + 2, none⟩ = some (nvs j) ∧ w.cell? ⟨b, off + j * 8 + 3, none⟩ = some (.int .i64 x.const.kind) ∧ w.cell? ⟨b, off + j * 8 + 4, none⟩ = some (.int .i64 x.const.int) ∧ w.cell? ⟨b, off + j * 8 + 5, none⟩ = some (.string x.const.text) ∧ w.cell? ⟨b, off + j * 8 + 6, none⟩ = some (dls j) ∧ w.cell? ⟨b, off + j * 8 + 7, none⟩ = some (kvs j))
      (hk : ∀ j x, ks[j]? = some x → ExAt w (exV x.kind x.name (nvs j) x.const (dls j) (kvs j)) x) :
      ExAt w (exV k n nv c dl (.slice (some ⟨b, off, none⟩) ks.length q)) (.mk k n l c ks)
structure ExC (w : World) (b o : Nat) (x : Ex) (nv dl kv : Value) : Prop where
  c0 : w.cell? ⟨b, o, none⟩ = some (.int .i64 x.kind)
  c1 : w.cell? ⟨b, o + 1, none⟩ = some (.string x.name)
  c2 : w.cell? ⟨b, o + 2, none⟩ = some nv
  c3 : w.cell? ⟨b, o + 3, none⟩ = some (.int .i64 x.const.kind)
  c4 : w.cell? ⟨b, o + 4, none⟩ = some (.int .i64 x.const.int)
  c5 : w.cell? ⟨b, o + 5, none⟩ = some (.string x.const.text)
  c6 : w.cell? ⟨b, o + 6, none⟩ = some dl
  c7 : w.cell? ⟨b, o + 7, none⟩ = some kv
  ex : ExAt w (exV x.kind x.name nv x.const dl kv) x
theorem ExAt.bel {w w' : World} {v : Value} {e : Ex} (h : ExAt w v e) (hb : Below w.heap.size w w') : ExAt w' v e := by
  induction h with
  | nil k n l c nv dl hn hd hr => exact .nil k n l c nv dl (hn.below hb (Nat.le_refl _)) (hd.bel hb (Nat.le_refl _)) hr
  | row k n l c nv dl ks b off q nvs dls kvs hn hd hr hl hq hc hk ih =>
    have e : ∀ o, w'.cell? ⟨b, o, none⟩ = w.cell? ⟨b, o, none⟩ := fun o => hb.cell (p := ⟨b, o, none⟩) hl
    refine .row k n l c nv dl ks b off q nvs dls kvs (hn.below hb (Nat.le_refl _)) (hd.bel hb (Nat.le_refl _)) hr (Nat.lt_of_lt_of_le hl hb.size) hq (fun j x hx => ?_) ih
    rw [e, e, e, e, e, e, e, e]
    exact hc j x hx
theorem ExAt.inv {w : World} {v : Value} {e : Ex} (h : ExAt w v e) : ∃ nv dl a q, v = exV e.kind e.name nv e.const dl (.slice a e.kids.length q) ∧ Sl w nv (strs e.names) ∧ DtAt w (fun _ => True) (.agg #[.int .i64 e.const.kind, .int .i64 e.const.int, .string e.const.text, dl]) e.const ∧ e.kids.length ≤ q ∧
    (e.kids = [] ∨ ∃ b off, a = some ⟨b, off, none⟩ ∧ b < w.heap.size ∧ ∀ j x, e.kids[j]? = some x → ∃ nvj dlj kvj, ExC w b (off + j * 8) x nvj dlj kvj) := by
  cases h with
  | nil k n l c nv dl hn hd hr => exact ⟨nv, dl, _, _, rfl, hn, hd, Nat.zero_le _, .inl rfl⟩
  | row k n l c nv dl ks b off q nvs dls kvs hn hd hr hl hq hc hk =>
    refine ⟨nv, dl, _, q, rfl, hn, hd, hq, .inr ⟨b, off, rfl, hl, fun j x hx => ?_⟩⟩
    obtain ⟨h0, h1, h2, h3, h4, h5, h6, h7⟩ := hc j x hx
    exact ⟨nvs j, dls j, kvs j, h0, h1, h2, h3, h4, h5, h6, h7, hk j x hx⟩
theorem ExAt.room {w : World} {k : Int} {n : ByteArray} {nv dl kv : Value} {c : Dt} {e : Ex} (h : ExAt w (exV k n nv c dl kv) e) : RoomOk nv := by
  generalize hv : exV k n nv c dl kv = v at h
  cases h with
  | nil k' n' l' c' nv' dl' hn hd hr => unfold exV at hv; simp at hv; rw [hv.2.2.1]; exact hr
  | row k' n' l' c' nv' dl' ks b off q nvs dls kvs hn hd hr hl hq hc hk => unfold exV at hv; simp at hv; rw [hv.2.2.1]; exact hr
theorem ExAt.of {w : World} {k : Int} {n : ByteArray} {l : List ByteArray} {c : Dt} {nv dl : Value} {ks : List Ex} {a : Option Addr} {q : Nat} (hn : Sl w nv (strs l)) (hd : DtAt w (fun _ => True) (.agg #[.int .i64 c.kind, .int .i64 c.int, .string c.text, dl]) c) (hr : RoomOk nv) (hq : ks.length ≤ q)
    (hk : ks = [] ∨ ∃ b off, a = some ⟨b, off, none⟩ ∧ b < w.heap.size ∧ ∀ j x, ks[j]? = some x → ∃ nvj dlj kvj, ExC w b (off + j * 8) x nvj dlj kvj) : ExAt w (exV k n nv c dl (.slice a ks.length q)) (.mk k n l c ks) := by
  rcases hk with rfl | ⟨b, off, rfl, hl, hc⟩
  · exact .nil k n l c nv dl hn hd hr
  · have H : ∀ j, ∃ nvj dlj kvj, ∀ x, ks[j]? = some x → ExC w b (off + j * 8) x nvj dlj kvj := fun j => by
      cases hx : ks[j]? with
      | none => exact ⟨undef, undef, undef, fun x h => nomatch h⟩
      | some x =>
        obtain ⟨p, q, r, h⟩ := hc j x hx
        exact ⟨p, q, r, fun y hy => by cases hy; exact h⟩
    refine .row k n l c nv dl ks b off q (fun j => (H j).choose) (fun j => (H j).choose_spec.choose) (fun j => (H j).choose_spec.choose_spec.choose) hn hd hr hl hq (fun j x hx => ?_) (fun j x hx => ?_)
    · have h := (H j).choose_spec.choose_spec.choose_spec x hx
      exact ⟨h.c0, h.c1, h.c2, h.c3, h.c4, h.c5, h.c6, h.c7⟩
    · exact ((H j).choose_spec.choose_spec.choose_spec x hx).ex
theorem ExC.bel {w w' : World} {b o : Nat} {x : Ex} {nv dl kv : Value} (h : ExC w b o x nv dl kv) (hl : b < w.heap.size) (hb : Below w.heap.size w w') : ExC w' b o x nv dl kv :=
  have e : ∀ o, w'.cell? ⟨b, o, none⟩ = w.cell? ⟨b, o, none⟩ := fun o => hb.cell (p := ⟨b, o, none⟩) hl
  ⟨(e _).trans h.c0, (e _).trans h.c1, (e _).trans h.c2, (e _).trans h.c3, (e _).trans h.c4, (e _).trans h.c5, (e _).trans h.c6, (e _).trans h.c7, h.ex.bel hb⟩
end Go.Proofs.YtkplkgdfphbldaaGreat
namespace Go.Proofs.YtkplkgdfphbldaaGreat
set_option linter.unusedVariables false
set_option linter.unusedSimpArgs false
namespace Ex
structure Stands (Q : ByteArray → Ex → Bool) (O : ByteArray → Ex → Prop) : Prop where
  iff : ∀ (s : ByteArray) (e : Ex), Q s e = true ↔ O s e ∨ ∃ (j : Nat) (x : Ex), e.kids[j]? = some x ∧ (binds e.kind e.kids.length j && inN e.names s) = false ∧ Q s x = true
theorem stands_sets : Stands sets fun s e => e.kind = 2 ∧ e.name = s := ⟨sets_iff⟩
theorem stands_free : Stands isFree fun s e => (e.kind = 1 ∨ e.kind = 2) ∧ e.name = s := ⟨isFree_iff⟩
section
variable {Q : ByteArray → Ex → Bool} {O : ByteArray → Ex → Prop}
theorem binds_all {k : Int} (h : k = 5 ∨ k = 9 ∨ k = 10) (n i : Nat) : binds k n i = true := by
  unfold binds
  rcases h with h | h | h <;> simp [h]
theorem binds_none {k : Int} (h5 : k ≠ 5) (h9 : k ≠ 9) (h10 : k ≠ 10) (h8 : k ≠ 8) (n i : Nat) : binds k n i = false := by
  unfold binds
  simp [h5, h9, h10, h8]
theorem binds_let {n i : Nat} : binds 8 n i = decide (i + 1 = n) := by
  unfold binds
  simp
theorem Stands.set (H : Stands Q O) (s n : ByteArray) (k : Ex) : Q s (setE n k) = true ↔ O s (setE n k) ∨ Q s k = true := by
  rw [H.iff]
  unfold setE
  simp only [kind_mk, names_mk, kids_mk]
  constructor
  · rintro (h | ⟨j, x, hx, _, h⟩)
    · exact .inl h
    · cases j with
      | zero =>
        simp at hx
        subst hx
        exact .inr h
      | succ j => simp at hx
  · rintro (h | h)
    · exact .inl h
    · exact .inr ⟨0, k, rfl, by rw [binds_none (by decide) (by decide) (by decide) (by decide)]; rfl, h⟩
theorem snoc_cases {l : List Ex} {b x : Ex} {j : Nat} (h : (l ++ [b])[j]? = some x) : (j < l.length ∧ l[j]? = some x) ∨ (j = l.length ∧ x = b) := by
  by_cases hj : j < l.length
  · rw [List.getElem?_append_left hj] at h
    exact .inl ⟨hj, h⟩
  · have h2 : j < (l ++ [b]).length := (List.getElem?_eq_some_iff.1 h).1
    have : j = l.length := by simp at h2; omega
    subst this
    rw [List.getElem?_append_right (Nat.le_refl _)] at h
    simp at h
    exact .inr ⟨rfl, h.symm⟩
theorem Stands.seq (H : Stands Q O) (s : ByteArray) (l : List Ex) (b : Ex) (hO : ¬ O s (Ex.mk 4 ⟨#[]⟩ [] Dt.zero (l ++ [b]))) : Q s (seqE l b) = true ↔ (∃ x ∈ l, Q s x = true) ∨ Q s b = true := by
  unfold seqE
  cases l with
  | nil => simp
  | cons y l =>
    rw [List.isEmpty_cons, if_neg (by simp), H.iff]
    simp only [kind_mk, names_mk, kids_mk, hO, false_or]
    constructor
    · rintro ⟨j, x, hx, _, h⟩
      have hm := List.mem_of_getElem? hx
      rcases List.mem_append.1 hm with hm | hm
      · exact .inl ⟨x, hm, h⟩
      · rw [List.mem_singleton.1 hm] at h
        exact .inr h
    · intro h
      have hb : ∀ (n i : Nat), (binds 4 n i && inN [] s) = false := fun n i => by rw [binds_none (by decide) (by decide) (by decide) (by decide)]; rfl
      rcases h with ⟨x, hm, h⟩ | h
      · obtain ⟨j, hj⟩ := List.mem_iff_getElem?.1 (List.mem_append_left [b] hm)
        exact ⟨j, x, hj, hb _ _, h⟩
      · obtain ⟨j, hj⟩ := List.mem_iff_getElem?.1 (List.mem_append_right (y :: l) (List.mem_singleton.2 (rfl : b = b)))
        exact ⟨j, b, hj, hb _ _, h⟩
theorem Stands.lets (H : Stands Q O) (s : ByteArray) (ns : List ByteArray) (ins : List Ex) (b : Ex) (hi : ∀ x ∈ ins, Q s x = false) (hO : ¬ O s (Ex.mk 8 ⟨#[]⟩ ns Dt.zero (ins ++ [b]))) : Q s (letE ns ins b) = true ↔ s ∉ ns ∧ Q s b = true := by
  unfold letE
  cases ns with
  | nil => simp
  | cons y l =>
    rw [List.isEmpty_cons, if_neg (by simp), H.iff]
    simp only [kind_mk, names_mk, kids_mk, hO, false_or]
    constructor
    · rintro ⟨j, x, hx, hb, h⟩
      rcases snoc_cases hx with ⟨_, hx⟩ | ⟨hj, rfl⟩
      · rw [hi x (List.mem_of_getElem? hx)] at h
        cases h
      · subst hj
        rw [binds_let] at hb
        simp at hb
        refine ⟨fun hs => ?_, h⟩
        rw [(inN_iff _ _).2 hs] at hb
        simp at hb
    · rintro ⟨hs, h⟩
      refine ⟨ins.length, b, by simp, ?_, h⟩
      cases hc : inN (y :: l) s
      · simp
      · exact absurd ((inN_iff _ _).1 hc) hs
theorem Stands.fixs (H : Stands Q O) (s : ByteArray) (ns : List ByteArray) (ks : List Ex) (b : Ex) (hl : ks.length = ns.length) (hO : ¬ O s (Ex.mk 10 ⟨#[]⟩ ns Dt.zero (ks ++ [b]))) : Q s (fixN ns ks b) = true ↔ s ∉ ns ∧ ((∃ x ∈ ks, Q s x = true) ∨ Q s b = true) := by
  unfold fixN
  cases ns with
  | nil =>
    have : ks = [] := List.eq_nil_of_length_eq_zero hl
    simp [this]
  | cons y l =>
    rw [List.isEmpty_cons, if_neg (by simp), H.iff]
    simp only [kind_mk, names_mk, kids_mk, hO, false_or]
    constructor
    · rintro ⟨j, x, hx, hb, h⟩
      rw [binds_all (by decide)] at hb
      simp at hb
      refine ⟨fun hs => ?_, ?_⟩
      · rw [(inN_iff _ _).2 hs] at hb
        simp at hb
      · rcases List.mem_append.1 (List.mem_of_getElem? hx) with hm | hm
        · exact .inl ⟨x, hm, h⟩
        · rw [List.mem_singleton.1 hm] at h
          exact .inr h
    · rintro ⟨hs, h⟩
      have hb : ∀ n i : Nat, (binds 10 n i && inN (y :: l) s) = false := fun n i => by
        cases hc : inN (y :: l) s
        · simp
        · exact absurd ((inN_iff _ _).1 hc) hs
      rcases h with ⟨x, hm, h⟩ | h
      · obtain ⟨j, hj⟩ := List.mem_iff_getElem?.1 (List.mem_append_left [b] hm)
        exact ⟨j, x, hj, hb _ _, h⟩
      · obtain ⟨j, hj⟩ := List.mem_iff_getElem?.1 (List.mem_append_right ks (List.mem_singleton.2 (rfl : b = b)))
        exact ⟨j, b, hj, hb _ _, h⟩
theorem zip_split {ns : List ByteArray} {ks : List Ex} (A : ByteArray → Bool) (s : ByteArray) (h : ns.length ≤ ks.length) : s ∈ ns ↔ s ∈ (tiedL A (ns.zip ks)).map (·.1) ∨ s ∈ (looseL A (ns.zip ks)).map (·.1) := by
  have h1 : s ∈ ns ↔ s ∈ (ns.zip ks).map (·.1) := by rw [zip_fst h]
  rw [h1]
  unfold tiedL looseL
  simp only [List.mem_map, List.mem_filter]
  constructor
  · rintro ⟨p, hp, rfl⟩
    cases ht : tied A p
    · exact .inr ⟨p, ⟨hp, by simp [ht]⟩, rfl⟩
    · exact .inl ⟨p, ⟨hp, ht⟩, rfl⟩
  · rintro (⟨p, ⟨hp, _⟩, rfl⟩ | ⟨p, ⟨hp, _⟩, rfl⟩)
    · exact ⟨p, hp, rfl⟩
    · exact ⟨p, hp, rfl⟩
theorem zip_kids {ns : List ByteArray} {ks : List Ex} (A : ByteArray → Bool) (P : Ex → Prop) (h : ks.length ≤ ns.length) : (∃ x ∈ ks, P x) ↔ (∃ p ∈ tiedL A (ns.zip ks), P p.2) ∨ ∃ p ∈ looseL A (ns.zip ks), P p.2 := by
  have h1 : (∃ x ∈ ks, P x) ↔ ∃ p ∈ ns.zip ks, P p.2 := by
    have e : (ns.zip ks).map (·.2) = ks := List.map_snd_zip h
    constructor
    · rintro ⟨x, hx, hp⟩
      rw [← e] at hx
      obtain ⟨p, hm, rfl⟩ := List.mem_map.1 hx
      exact ⟨p, hm, hp⟩
    · rintro ⟨p, hm, hp⟩
      exact ⟨p.2, by rw [← e]; exact List.mem_map_of_mem hm, hp⟩
  rw [h1]
  unfold tiedL looseL
  simp only [List.mem_filter]
  constructor
  · rintro ⟨p, hp, h⟩
    cases ht : tied A p
    · exact .inr ⟨p, ⟨hp, by simp [ht]⟩, h⟩
    · exact .inl ⟨p, ⟨hp, ht⟩, h⟩
  · rintro (⟨p, ⟨hp, _⟩, h⟩ | ⟨p, ⟨hp, _⟩, h⟩)
    · exact ⟨p, hp, h⟩
    · exact ⟨p, hp, h⟩
theorem Stands.tie (H : Stands Q O) (hOn : ∀ (s : ByteArray) (k : Int) (ns : List ByteArray) (ks : List Ex), (k = 4 ∨ k = 8 ∨ k = 10) → ¬ O s (Ex.mk k ⟨#[]⟩ ns Dt.zero ks)) (hOu : ∀ s, Q s unsetE = false) (hOs : ∀ s n k, O s (setE n k) → n = s)
    (A : ByteArray → Bool) (s : ByteArray) {ns : List ByteArray} {ks : List Ex} {b : Ex} (hl : ks.length = ns.length) : Q s (tieE A (ns.zip ks) b) = true ↔ s ∉ ns ∧ ((∃ x ∈ ks, Q s x = true) ∨ Q s b = true) := by
  unfold tieE
  rw [H.lets s _ _ _ (fun x hx => by obtain ⟨p, _, rfl⟩ := List.mem_map.1 hx; exact hOu s) (hOn _ _ _ _ (.inr (.inl rfl))), H.fixs s _ _ _ (by simp) (hOn _ _ _ _ (.inr (.inr rfl))), H.seq s _ _ (hOn _ _ _ _ (.inl rfl)), zip_split A s (Nat.le_of_eq hl.symm), zip_kids A (fun x => Q s x = true) (Nat.le_of_eq hl)]
  have e1 : (∃ x ∈ (tiedL A (ns.zip ks)).map (·.2), Q s x = true) ↔ ∃ p ∈ tiedL A (ns.zip ks), Q s p.2 = true := by
    simp only [List.mem_map]
    constructor
    · rintro ⟨x, ⟨p, hp, rfl⟩, h⟩; exact ⟨p, hp, h⟩
    · rintro ⟨p, hp, h⟩; exact ⟨_, ⟨p, hp, rfl⟩, h⟩
  have e2 : s ∉ (looseL A (ns.zip ks)).map (·.1) → ((∃ x ∈ setsOf (looseL A (ns.zip ks)), Q s x = true) ↔ ∃ p ∈ looseL A (ns.zip ks), Q s p.2 = true) := fun hs => by
    constructor
    · rintro ⟨x, hx, h⟩
      obtain ⟨p, hp, rfl⟩ := mem_setsOf.1 hx
      rcases (H.set s p.1 p.2).1 h with h | h
      · exact absurd (List.mem_map.2 ⟨p, hp, hOs _ _ _ h⟩) hs
      · exact ⟨p, hp, h⟩
    · rintro ⟨p, hp, h⟩
      exact ⟨_, mem_setsOf.2 ⟨p, hp, rfl⟩, (H.set s p.1 p.2).2 (.inr h)⟩
  rw [e1]
  constructor
  · rintro ⟨a1, a2, a3⟩
    refine ⟨fun h => h.elim a2 a1, ?_⟩
    rw [e2 a1] at a3
    rcases a3 with h | h | h
    · exact .inl (.inl h)
    · exact .inl (.inr h)
    · exact .inr h
  · rintro ⟨a1, a3⟩
    have n1 : s ∉ (looseL A (ns.zip ks)).map (·.1) := fun h => a1 (.inr h)
    refine ⟨n1, fun h => a1 (.inl h), ?_⟩
    rw [e2 n1]
    rcases a3 with (h | h) | h
    · exact .inl h
    · exact .inr (.inl h)
    · exact .inr (.inr h)
end
end Ex
end Go.Proofs.YtkplkgdfphbldaaGreat
namespace Go.Proofs.YtkplkgdfphbldaaGreat
set_option linter.unusedVariables false
set_option linter.unusedSimpArgs false
mutual
theorem Dt.same_true : ∀ a b : Dt, Dt.same a b = true → a = b
  | .mk k i t l, .mk k' i' t' l', h => by
    rw [Dt.same] at h
    simp only [Bool.and_eq_true, decide_eq_true_eq] at h
    obtain ⟨⟨⟨rfl, rfl⟩, rfl⟩, h⟩ := h
    rw [Dt.sames_true l l' h]
theorem Dt.sames_true : ∀ l m : List Dt, Dt.sames l m = true → l = m
  | [], [], _ => rfl
  | [], y :: m, h => by simp [Dt.sames] at h
  | x :: l, [], h => by simp [Dt.sames] at h
  | x :: l, y :: m, h => by
    rw [Dt.sames, Bool.and_eq_true] at h
    rw [Dt.same_true x y h.1, Dt.sames_true l m h.2]
end
namespace Ex
theorem zip_take (ns : List ByteArray) (ks : List Ex) : ns.zip ks = ns.zip (ks.take ns.length) := by
  induction ns generalizing ks with
  | nil => simp
  | cons n ns ih =>
    cases ks with
    | nil => simp
    | cons k ks => simp [ih ks]
theorem kids_split {e : Ex} {x : Ex} (h : e.kids.length = e.names.length + 1) (hx : e.kids[e.names.length]? = some x) : e.kids = e.kids.take e.names.length ++ [x] := by
  have h1 : e.kids[e.names.length]'(by omega) = x := (List.getElem?_eq_some_iff.1 hx).2
  have h2 := List.take_append_drop e.names.length e.kids
  rw [List.drop_eq_getElem_cons (by omega), h1, List.drop_eq_nil_of_le (by omega)] at h2
  exact h2.symm
section
variable {Q : ByteArray → Ex → Bool} {O : ByteArray → Ex → Prop}
theorem Stands.ties (H : Stands Q O) (s : ByteArray) (e : Ex) (hk : e.kind = 9 ∨ e.kind = 10) (hO : ¬ O s e) : Q s e = true ↔ s ∉ e.names ∧ ∃ x ∈ e.kids, Q s x = true := by
  rw [H.iff]
  simp only [hO, false_or, binds_all (k := e.kind) (by omega), Bool.true_and]
  constructor
  · rintro ⟨j, x, hx, hn, h⟩
    exact ⟨fun hs => absurd ((inN_iff _ _).2 hs) (by rw [hn]; decide), x, List.mem_of_getElem? hx, h⟩
  · rintro ⟨hs, x, hx, h⟩
    obtain ⟨j, hj⟩ := List.mem_iff_getElem?.1 hx
    refine ⟨j, x, hj, ?_, h⟩
    rw [← Bool.not_eq_true]
    exact fun hc => hs ((inN_iff _ _).1 hc)
theorem Stands.fixE (H : Stands Q O) (hOk : ∀ s (e e' : Ex), e.kind = e'.kind → e.name = e'.name → O s e → O s e') (hO9 : ∀ s (e : Ex), e.kind = 4 ∨ e.kind = 7 ∨ e.kind = 8 ∨ e.kind = 9 ∨ e.kind = 10 → ¬ O s e) (hOs : ∀ s n k, O s (setE n k) → n = s) (s : ByteArray) (e : Ex) :
    all form e = true → Q s (fixE e) = Q s e := by
  induction e using byKids with
  | h e ih =>
    intro h
    rw [all_iff] at h
    have hk : ∀ x ∈ e.kids, Q s (Ex.fixE x) = Q s x := fun x hx => ih x hx (h.2 x hx)
    rw [Bool.eq_iff_iff, fixE_eq]
    split
    · rename_i hkind
      obtain ⟨h1, h2, h3, h4, h5⟩ := form_ties h.1 hkind
      obtain ⟨x, hx, hm, he⟩ := last_mem h1
      have hu : ∀ s, Q s unsetE = false := fun s => by
        rw [← Bool.not_eq_true, H.iff]
        rintro (h | ⟨j, x, hx, _⟩)
        · exact hO9 s unsetE (.inr (.inl rfl)) h
        · simp [unsetE, prim0, kids_mk] at hx
      rw [he, zip_take, H.tie (fun s k ns ks hk => hO9 s _ (by rcases hk with rfl | rfl | rfl; exact .inl rfl; exact .inr (.inr (.inl rfl)); exact .inr (.inr (.inr (.inr rfl))))) hu hOs _ s (by simp; omega), H.ties s e hkind (hO9 s e (by omega))]
      refine and_congr_right fun _ => ?_
      conv => rhs; rw [kids_split h1 hx]
      rw [hk x hm, ← List.map_take]
      simp only [List.mem_map, List.mem_append, List.mem_singleton]
      constructor
      · rintro (⟨y, ⟨z, hz, rfl⟩, h⟩ | h)
        · rw [hk z (List.mem_of_mem_take hz)] at h
          exact ⟨z, .inl hz, h⟩
        · exact ⟨x, .inr rfl, h⟩
      · rintro ⟨z, hz | rfl, h⟩
        · rw [← hk z (List.mem_of_mem_take hz)] at h
          exact .inl ⟨_, ⟨z, hz, rfl⟩, h⟩
        · exact .inr h
    · rename_i hkind
      rw [H.iff, H.iff]
      simp only [kind_mk, names_mk, kids_mk, List.length_map]
      constructor
      · rintro (h | ⟨j, y, hy, hb, h⟩)
        · exact .inl (hOk s (Ex.mk e.kind e.name e.names e.const (List.map Ex.fixE e.kids)) e rfl rfl h)
        · rw [List.getElem?_map] at hy
          obtain ⟨z, hz, rfl⟩ := Option.map_eq_some_iff.1 hy
          rw [hk z (List.mem_of_getElem? hz)] at h
          exact .inr ⟨j, z, hz, hb, h⟩
      · rintro (h | ⟨j, z, hz, hb, h⟩)
        · exact .inl (hOk s e (Ex.mk e.kind e.name e.names e.const (List.map Ex.fixE e.kids)) rfl rfl h)
        · rw [← hk z (List.mem_of_getElem? hz)] at h
          exact .inr ⟨j, _, by rw [List.getElem?_map, hz]; rfl, hb, h⟩
end
theorem sets_fixE (s : ByteArray) (e : Ex) (h : all form e = true) : sets s (fixE e) = sets s e :=
  stands_sets.fixE (fun s e e' h1 h2 h => by rw [← h1, ← h2]; exact h) (fun s e hk h => by omega) (fun s n k h => h.2) s e h
theorem free_fixE (s : ByteArray) (e : Ex) (h : all form e = true) : isFree s (fixE e) = isFree s e :=
  stands_free.fixE (fun s e e' h1 h2 h => by rw [← h1, ← h2]; exact h) (fun s e hk h => by omega) (fun s n k h => h.2) s e h
theorem fst_inj {l : List (ByteArray × Ex)} (hn : (l.map (·.1)).Nodup) {p q : ByteArray × Ex} (hp : p ∈ l) (hq : q ∈ l) (h : p.1 = q.1) : p = q := by
  induction l with
  | nil => cases hp
  | cons x l ih =>
    rw [List.map_cons, List.nodup_cons] at hn
    rcases List.mem_cons.1 hp with hp' | hp' <;> rcases List.mem_cons.1 hq with hq' | hq'
    · rw [hp', hq']
    · exact absurd (List.mem_map.2 ⟨q, hq', h.symm.trans (congrArg _ hp')⟩) hn.1
    · exact absurd (List.mem_map.2 ⟨p, hp', h.trans (congrArg _ hq')⟩) hn.1
    · exact ih hn.2 hp' hq'
theorem fixSet_mk (k : Int) (n : ByteArray) (ns : List ByteArray) (c : Dt) (ks : List Ex) : fixSet (mk k n ns c ks) = true ↔ k = 10 ∧ (∃ s ∈ ns, assigned (mk k n ns c ks) s = true) ∨ ∃ x ∈ ks, fixSet x = true := fixSet_iff _
theorem fixSet_fixE (e : Ex) : all form e = true → fixSet (fixE e) = false := by
  induction e using byKids with
  | h e ih =>
    intro h
    rw [all_iff] at h
    have hk : ∀ y ∈ e.kids.map fixE, ¬ fixSet y = true := fun y hy => by
      obtain ⟨x, hx, rfl⟩ := List.mem_map.1 hy
      rw [ih x hx (h.2 x hx)]
      simp
    rw [← Bool.not_eq_true, fixE_eq]
    split
    · rename_i hkind
      obtain ⟨h1, h2, h3, h4, h5⟩ := form_ties h.1 hkind
      obtain ⟨x, hx, hm, he⟩ := last_mem h1
      rw [he]
      have hb : ¬ fixSet (fixE x) = true := by rw [ih x hm (h.2 x hm)]; simp
      have hz : ∀ p ∈ e.names.zip (e.kids.map fixE), ¬ fixSet p.2 = true := fun p hp => hk _ (List.of_mem_zip hp).2
      have hA : ∀ s, assigned e s = false → ∀ y ∈ e.kids.map fixE, sets s y = false := fun s hs y hy => by
        obtain ⟨z, hz, rfl⟩ := List.mem_map.1 hy
        rw [sets_fixE s z (h.2 z hz), ← Bool.not_eq_true]
        intro hc
        obtain ⟨j, hj⟩ := List.mem_iff_getElem?.1 hz
        rw [(assigned_iff e s).2 ⟨j, z, hj, binds_all (by omega) _ _, hc⟩] at hs
        cases hs
      generalize hL : e.names.zip (e.kids.map fixE) = L at *
      have hLk : ∀ p ∈ L, p.2 ∈ e.kids.map fixE := fun p hp => by rw [← hL] at hp; exact (List.of_mem_zip hp).2
      have hnd : (L.map (·.1)).Nodup := by
        rw [← hL, zip_fst (by simp; omega)]
        exact ((namesB_iff _).1 h2).2
      have hs : ¬ fixSet (seqE (setsOf (looseL (assigned e) L)) (fixE x)) = true := by
        unfold seqE
        split
        · exact hb
        · rw [fixSet_mk]
          rintro (h | ⟨y, hy, h⟩)
          · exact absurd h.1 (by decide)
          · rcases List.mem_append.1 hy with hy | hy
            · obtain ⟨p, hp, rfl⟩ := mem_setsOf.1 hy
              unfold setE at h
              rw [fixSet_mk] at h
              rcases h with h | ⟨z, hz', h⟩
              · exact absurd h.1 (by decide)
              · rw [List.mem_singleton.1 hz'] at h
                exact hz p (List.mem_filter.1 hp).1 h
            · rw [List.mem_singleton.1 hy] at h
              exact hb h
      have hf : ¬ fixSet (fixN ((tiedL (assigned e) L).map (·.1)) ((tiedL (assigned e) L).map (·.2)) (seqE (setsOf (looseL (assigned e) L)) (fixE x))) = true := by
        unfold fixN
        split
        · exact hs
        · rw [fixSet_mk]
          rintro (⟨_, n, hn, h⟩ | ⟨y, hy, h⟩)
          · obtain ⟨q, hq, rfl⟩ := List.mem_map.1 hn
            have hq2 := (List.mem_filter.1 hq).2
            have hAq : assigned e q.1 = false := by
              unfold tied at hq2
              simp at hq2
              exact hq2.2
            obtain ⟨j, y, hj, _, hy⟩ := (assigned_iff _ _).1 h
            rw [kids_mk] at hj
            rcases List.mem_append.1 (List.mem_of_getElem? hj) with hm' | hm'
            · obtain ⟨p, hp, rfl⟩ := List.mem_map.1 hm'
              rw [hA _ hAq _ (hLk p (List.mem_filter.1 hp).1)] at hy
              cases hy
            · rw [List.mem_singleton.1 hm', stands_sets.seq _ _ _ (fun h => absurd h.1 (show ¬ (4 : Int) = 2 by decide))] at hy
              rcases hy with ⟨z, hz', hy⟩ | hy
              · obtain ⟨p, hp, rfl⟩ := mem_setsOf.1 hz'
                rcases (stands_sets.set _ _ _).1 hy with hy | hy
                · have e1 : p.1 = q.1 := hy.2
                  have e2 := fst_inj hnd (List.mem_filter.1 hp).1 (List.mem_filter.1 hq).1 e1
                  have := (List.mem_filter.1 hp).2
                  rw [e2, hq2] at this
                  cases this
                · rw [hA _ hAq _ (hLk p (List.mem_filter.1 hp).1)] at hy
                  cases hy
              · rw [hA _ hAq _ (List.mem_map_of_mem hm)] at hy
                cases hy
          · rcases List.mem_append.1 hy with hy | hy
            · obtain ⟨p, hp, rfl⟩ := List.mem_map.1 hy
              exact hz p (List.mem_filter.1 hp).1 h
            · rw [List.mem_singleton.1 hy] at h
              exact hs h
      unfold tieE letE
      split
      · exact hf
      · rw [fixSet_mk]
        rintro (h | ⟨y, hy, h⟩)
        · exact absurd h.1 (by decide)
        · rcases List.mem_append.1 hy with hy | hy
          · obtain ⟨p, hp, rfl⟩ := List.mem_map.1 hy
            revert h
            decide
          · rw [List.mem_singleton.1 hy] at h
            exact hf h
    · rename_i hkind
      rw [fixSet_mk]
      rintro (h | ⟨y, hy, h⟩)
      · omega
      · exact hk y hy h
theorem fixE_id (e : Ex) : all form e = true → has 9 e = false → fixSet e = false → fixE e = e := by
  induction e using byKids with
  | h e ih =>
    intro h h9 hs
    rw [all_iff] at h
    have h9' : ¬ (e.kind = 9 ∨ ∃ x ∈ e.kids, has 9 x = true) := fun hc => by rw [(has_iff 9 e).2 hc] at h9; cases h9
    have hs' : ¬ (e.kind = 10 ∧ (∃ s ∈ e.names, assigned e s = true) ∨ ∃ x ∈ e.kids, fixSet x = true) := fun hc => by rw [(fixSet_iff e).2 hc] at hs; cases hs
    have hk : e.kids.map fixE = e.kids := by
      conv => rhs; rw [← List.map_id e.kids]
      refine List.map_congr_left fun x hx => ?_
      refine ih x hx (h.2 x hx) ?_ ?_
      · rw [← Bool.not_eq_true]
        exact fun hc => h9' (.inr ⟨x, hx, hc⟩)
      · rw [← Bool.not_eq_true]
        exact fun hc => hs' (.inr ⟨x, hx, hc⟩)
    rw [fixE_eq, hk]
    split
    · rename_i hkind
      have hk10 : e.kind = 10 := by
        rcases hkind with hkind | hkind
        · exact absurd (.inl hkind) h9'
        · exact hkind
      obtain ⟨h1, h2, h3, h4, h5⟩ := form_ties h.1 hkind
      obtain ⟨g1, g2⟩ := h5 hk10
      obtain ⟨x, hx, hm, he⟩ := last_mem h1
      rw [hk] at he
      have hxx : fixE x = x := by
        rw [← he, hx]
        rfl
      have ht : ∀ p ∈ e.names.zip (e.kids.take e.names.length), tied (assigned e) p = true := fun p hp => by
        have hp' := List.of_mem_zip hp
        have ha : assigned e p.1 = false := by
          rw [← Bool.not_eq_true]
          exact fun hc => hs' (.inl ⟨hk10, p.1, hp'.1, hc⟩)
        unfold tied
        rw [g2 _ hp'.2, ha]
        decide
      have e1 : tiedL (assigned e) (e.names.zip (e.kids.take e.names.length)) = e.names.zip (e.kids.take e.names.length) := List.filter_eq_self.2 ht
      have e2 : looseL (assigned e) (e.names.zip (e.kids.take e.names.length)) = [] := List.filter_eq_nil_iff.2 fun p hp => by rw [ht p hp]; decide
      have e3 : (e.names.zip (e.kids.take e.names.length)).map (·.1) = e.names := zip_fst (by simp; omega)
      have e4 : (e.names.zip (e.kids.take e.names.length)).map (·.2) = e.kids.take e.names.length := List.map_snd_zip (by simp; omega)
      rw [he, hxx, zip_take]
      unfold tieE
      rw [e1, e2, e3, e4]
      show fixN _ _ x = e
      unfold fixN
      have : ¬ e.names.isEmpty = true := by
        cases hn : e.names with
        | nil => rw [hn] at g1; simp at g1
        | cons _ _ => simp
      rw [if_neg this, ← kids_split h1 hx, ← h3, ← Dt.same_true _ _ h4, ← hk10]
      exact eta e
    · exact eta e
theorem sizes_map_le {l : List Ex} {f : Ex → Ex} (h : ∀ x ∈ l, (f x).size + 2 ≤ 5 * x.size) : sizes (l.map f) + 2 * l.length ≤ 5 * sizes l := by
  induction l with
  | nil => simp [sizes]
  | cons x l ih =>
    rw [List.map_cons, sizes, sizes, List.length_cons]
    have := h x (by simp)
    have := ih fun y hy => h y (by simp [hy])
    omega
theorem sizes_filter (g : ByteArray × Ex → Bool) (l : List (ByteArray × Ex)) : sizes ((l.filter g).map (·.2)) + sizes ((l.filter fun p => !g p).map (·.2)) = sizes (l.map (·.2)) := by
  induction l with
  | nil => simp [sizes]
  | cons p l ih =>
    cases hg : g p
    · simp only [List.filter_cons, hg, Bool.not_false, if_true, List.map_cons, sizes] at ih ⊢
      simp only [Bool.false_eq_true, if_false]
      omega
    · simp only [List.filter_cons, hg, Bool.not_true, if_true, List.map_cons, sizes] at ih ⊢
      simp only [Bool.false_eq_true, if_false]
      omega
theorem size_mk (k : Int) (n : ByteArray) (ns : List ByteArray) (c : Dt) (ks : List Ex) : (mk k n ns c ks).size = sizes ks + 1 := size_eq _
theorem sizes_set (l : List (ByteArray × Ex)) : sizes (l.map fun p => setE p.1 p.2) = sizes (l.map (·.2)) + l.length := by
  induction l with
  | nil => simp [sizes]
  | cons p l ih =>
    rw [List.map_cons, sizes, ih, List.map_cons, sizes, List.length_cons]
    unfold setE
    rw [size_mk, sizes, sizes]
    omega
theorem sizes_setsOf (l : List (ByteArray × Ex)) : sizes (setsOf l) = sizes (l.map (·.2)) + l.length := by
  unfold setsOf
  rw [sizes_app, sizes_set, sizes_set]
  have h1 := sizes_filter (fun p => decide (p.2.kind = 5)) l
  have h2 : (l.filter fun p => decide (p.2.kind = 5)).length + (l.filter fun p => !decide (p.2.kind = 5)).length = l.length := by
    induction l with
    | nil => simp
    | cons p l ih =>
      have ih := ih (sizes_filter _ l)
      by_cases hg : p.2.kind = 5 <;> simp [List.filter_cons, hg] at ih ⊢ <;> omega
  omega
theorem sizes_unset (l : List (ByteArray × Ex)) : sizes (l.map fun _ => unsetE) = l.length := by
  induction l with
  | nil => simp [sizes]
  | cons p l ih =>
    rw [List.map_cons, sizes, ih, List.length_cons]
    show unsetE.size + _ = _
    rw [show unsetE.size = 1 by decide]
    omega
theorem size_fixE (e : Ex) : all form e = true → (fixE e).size + 2 ≤ 5 * e.size := by
  induction e using byKids with
  | h e ih =>
    intro h
    rw [all_iff] at h
    have hk := sizes_map_le (l := e.kids) (f := fixE) fun x hx => ih x hx (h.2 x hx)
    rw [fixE_eq]
    split
    · rename_i hkind
      obtain ⟨h1, h2, h3, h4, h5⟩ := form_ties h.1 hkind
      obtain ⟨x, hx, hm, he⟩ := last_mem h1
      have hsp := kids_split h1 hx
      have hmap : e.kids.map fixE = (e.kids.take e.names.length).map fixE ++ [fixE x] := by
        conv => lhs; rw [hsp]
        simp
      rw [hmap, sizes_app] at hk
      simp only [sizes] at hk
      rw [he, zip_take, hmap]
      have e5 : List.take e.names.length ((e.kids.take e.names.length).map fixE ++ [fixE x]) = (e.kids.take e.names.length).map fixE := by
        rw [List.take_left']
        simp
        omega
      rw [e5]
      have e4 : (e.names.zip ((e.kids.take e.names.length).map fixE)).map (·.2) = (e.kids.take e.names.length).map fixE := List.map_snd_zip (by simp; omega)
      have hsf := sizes_filter (tied (assigned e)) (e.names.zip ((e.kids.take e.names.length).map fixE))
      rw [e4] at hsf
      have hll : (looseL (assigned e) (e.names.zip ((e.kids.take e.names.length).map fixE))).length ≤ e.names.length := by
        have := List.length_filter_le (fun p => !tied (assigned e) p) (e.names.zip ((e.kids.take e.names.length).map fixE))
        have h2 : (e.names.zip ((e.kids.take e.names.length).map fixE)).length ≤ e.names.length := by
          rw [List.length_zip]
          exact Nat.min_le_left _ _
        exact Nat.le_trans this h2
      have hs1 := size_eq e
      have q1 : ∀ (l : List Ex) (b : Ex), (seqE l b).size ≤ sizes l + b.size + 1 := fun l b => by
        unfold seqE
        split
        · omega
        · rw [size_mk, sizes_app, sizes, sizes]; omega
      have q2 : ∀ (ns : List ByteArray) (l : List Ex) (b : Ex), (fixN ns l b).size ≤ sizes l + b.size + 1 := fun ns l b => by
        unfold fixN
        split
        · omega
        · rw [size_mk, sizes_app, sizes, sizes]; omega
      have q3 : ∀ (ns : List ByteArray) (l : List Ex) (b : Ex), (letE ns l b).size ≤ sizes l + b.size + 1 := fun ns l b => by
        unfold letE
        split
        · omega
        · rw [size_mk, sizes_app, sizes, sizes]; omega
      unfold tieE
      refine Nat.le_trans (Nat.add_le_add_right (q3 _ _ _) 2) ?_
      rw [sizes_unset]
      have r2 := q2 ((tiedL (assigned e) (e.names.zip ((e.kids.take e.names.length).map fixE))).map (·.1)) ((tiedL (assigned e) (e.names.zip ((e.kids.take e.names.length).map fixE))).map (·.2)) (seqE (setsOf (looseL (assigned e) (e.names.zip ((e.kids.take e.names.length).map fixE)))) (fixE x))
      have r1 := q1 (setsOf (looseL (assigned e) (e.names.zip ((e.kids.take e.names.length).map fixE)))) (fixE x)
      rw [sizes_setsOf] at r1
      unfold tiedL looseL at *
      omega
    · rw [size_mk, size_eq e]
      omega
theorem deep_mk (k : Int) (n : ByteArray) (ns : List ByteArray) (c : Dt) (ks : List Ex) : (mk k n ns c ks).deep = deeps ks + 1 := deep_eq _
theorem deep_le {k : Int} {n : ByteArray} {ns : List ByteArray} {c : Dt} {ks : List Ex} {m : Nat} (h : ∀ x ∈ ks, x.deep ≤ m) : (mk k n ns c ks).deep ≤ m + 1 := by
  rw [deep_mk]
  have := deeps_le h
  omega
theorem deep_fixE (e : Ex) : all form e = true → (fixE e).deep ≤ 4 * e.deep := by
  induction e using byKids with
  | h e ih =>
    intro h
    rw [all_iff] at h
    have hk : ∀ y ∈ e.kids.map fixE, y.deep ≤ 4 * deeps e.kids := fun y hy => by
      obtain ⟨x, hx, rfl⟩ := List.mem_map.1 hy
      have := ih x hx (h.2 x hx)
      have := deep_mem _ x hx
      omega
    rw [deep_eq e, fixE_eq]
    split
    · rename_i hkind
      obtain ⟨h1, h2, h3, h4, h5⟩ := form_ties h.1 hkind
      obtain ⟨x, hx, hm, he⟩ := last_mem h1
      rw [he]
      generalize hL : e.names.zip (e.kids.map fixE) = L
      have hLk : ∀ p ∈ L, p.2.deep ≤ 4 * deeps e.kids := fun p hp => by rw [← hL] at hp; exact hk _ (List.of_mem_zip hp).2
      have hb := hk _ (List.mem_map_of_mem hm)
      have d1 : (seqE (setsOf (looseL (assigned e) L)) (fixE x)).deep ≤ 4 * deeps e.kids + 2 := by
        unfold seqE
        split
        · omega
        · refine deep_le fun y hy => ?_
          rcases List.mem_append.1 hy with hy | hy
          · obtain ⟨p, hp, rfl⟩ := mem_setsOf.1 hy
            exact deep_le fun z hz => by rw [List.mem_singleton.1 hz]; exact hLk p (List.mem_filter.1 hp).1
          · rw [List.mem_singleton.1 hy]; omega
      have d2 : (fixN ((tiedL (assigned e) L).map (·.1)) ((tiedL (assigned e) L).map (·.2)) (seqE (setsOf (looseL (assigned e) L)) (fixE x))).deep ≤ 4 * deeps e.kids + 3 := by
        unfold fixN
        split
        · omega
        · refine deep_le fun y hy => ?_
          rcases List.mem_append.1 hy with hy | hy
          · obtain ⟨p, hp, rfl⟩ := List.mem_map.1 hy
            have := hLk p (List.mem_filter.1 hp).1
            omega
          · rw [List.mem_singleton.1 hy]; exact d1
      unfold tieE letE
      split
      · omega
      · refine deep_le fun y hy => ?_
        rcases List.mem_append.1 hy with hy | hy
        · obtain ⟨p, hp, rfl⟩ := List.mem_map.1 hy
          have : unsetE.deep = 1 := by decide
          omega
        · rw [List.mem_singleton.1 hy]; exact d2
    · have := deep_le (k := e.kind) (n := e.name) (ns := e.names) (c := e.const) hk
      omega
theorem small_ok {e : Ex} (h : ok e = true) (hs : e.size ≤ 400) (hd : e.deep ≤ 25) : ok (fixE e) = true := by
  rw [ok_iff] at h ⊢
  have := size_fixE e h.1
  have := deep_fixE e h.1
  exact ⟨form_fixE e h.1, by omega, by omega⟩
end Ex
end Go.Proofs.YtkplkgdfphbldaaGreat
namespace Go.Proofs.YtkplkgdfphbldaaGreat
open Go.RowKit
set_option maxRecDepth 100000
set_option linter.unusedVariables false
set_option linter.unusedSimpArgs false
set_option linter.unnecessarySimpa false
theorem VSl.cells {w : World} {a : Option Addr} {n c : Nat} {l : List Hp.V} (h : VSl w (.slice a n c) l) {k : Nat} {x : Hp.V} (hx : l[k]? = some x) : ∃ b off, a = some ⟨b, off, none⟩ ∧ b < w.heap.size ∧ w.cell? ⟨b, off + k * 3, none⟩ = some (.int .i64 x.kind) ∧ w.cell? ⟨b, off + k * 3 + 1, none⟩ = some (.int .i64 x.int) ∧ w.cell? ⟨b, off + k * 3 + 2, none⟩ = some (.string x.text) := by
  obtain ⟨b, off, e, h1, h2⟩ := h.at (fun e => by rw [e] at hx; simp at hx)
  exact ⟨b, off, e, h1, h2 k x hx⟩
end Go.Proofs.YtkplkgdfphbldaaGreat
namespace Go.Proofs.YtkplkgdfphbldaaGreat
set_option linter.unusedVariables false
set_option linter.unusedSimpArgs false
namespace Ex
mutual
def same : Ex → Ex → Bool
  | mk k n l c ks, mk k' n' l' c' ks' => decide (k = k') && decide (n = n') && decide (l = l') && Dt.same c c' && sames ks ks'
def sames : List Ex → List Ex → Bool
  | [], [] => true
  | x :: l, y :: m => same x y && sames l m
  | [], _ :: _ => false
  | _ :: _, [] => false
end
mutual
theorem same_refl : ∀ a : Ex, same a a = true
  | mk k n l c ks => by
    rw [same]
    simp only [Bool.and_eq_true, decide_eq_true_eq, true_and]
    exact ⟨Dt.same_refl c, sames_refl ks⟩
theorem sames_refl : ∀ l : List Ex, sames l l = true
  | [] => by simp [sames]
  | x :: l => by rw [sames, Bool.and_eq_true]; exact ⟨same_refl x, sames_refl l⟩
end
theorem sames_iff : ∀ l m : List Ex, sames l m = true ↔ l.length = m.length ∧ ∀ (j : Nat) (x y : Ex), l[j]? = some x → m[j]? = some y → same x y = true
  | [], [] => by simp [sames]
  | [], y :: m => by simp [sames]
  | x :: l, [] => by simp [sames]
  | x :: l, y :: m => by
    rw [sames, Bool.and_eq_true, sames_iff l m]
    constructor
    · rintro ⟨h1, h2, h3⟩
      refine ⟨by simp [h2], fun j a b ha hb => ?_⟩
      cases j with
      | zero => simp at ha hb; subst ha hb; exact h1
      | succ j => exact h3 j a b (by simpa using ha) (by simpa using hb)
    · rintro ⟨h1, h2⟩
      exact ⟨h2 0 x y rfl rfl, by simpa using h1, fun j a b ha hb => h2 (j + 1) a b (by simpa using ha) (by simpa using hb)⟩
theorem same_iff (e f : Ex) : same e f = (decide (e.kind = f.kind) && decide (e.name = f.name) && decide (e.names = f.names) && Dt.same e.const f.const && sames e.kids f.kids) := by
  cases e; cases f; rw [same]; rfl
end Ex
end Go.Proofs.YtkplkgdfphbldaaGreat
