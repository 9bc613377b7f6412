/- The heap's Do by a row of the table. -/
import Derived.Test.YthbnhneibpoooaaQHpDoD
import Derived.Test.YthbnhneibpoooaaQHpTb
import Derived.Test.YthbnhneibpoooaaQMH
set_option linter.unusedVariables false
set_option linter.unusedSimpArgs false
set_option linter.unnecessarySimpa false
namespace Go.Proofs.Ythbnhneibpoooaa
open Go.RowKit
set_option linter.unusedVariables false
set_option linter.unusedSimpArgs false
namespace Hp
def okAt (T : List Th) (q : V × Int) : Bool := isL (kindOf T q.1) q.1.kind q.2
def allOk (T : List Th) (l : List V) (ls : List Int) : Bool := (l.zip ls).all (okAt T)
theorem tab_bytes : ∀ x ∈ tab, Nm.bytesI x.bytes = x.letters := by
  have h : ∀ x ∈ tab, (Nm.bytesI x.bytes == x.letters) = true := by decide +kernel
  exact fun x hx => by simpa using h x hx
theorem tab_ok : ∀ x ∈ tab, ∀ c ∈ x.letters, letterOk c := by
  have h : ∀ x ∈ tab, ∀ c ∈ x.letters, (decide (c = 46) || decide (c = 105) || decide (c = 99) || decide (c = 112) || decide (c = 118) || decide (c = 115) || decide (c = 98) || decide (c = 114)) = true := by decide +kernel
  intro x hx c hc
  have := h x hx c hc
  simpa [letterOk, or_assoc] using this
theorem may_thing' {n : Nat} {v : V} (h : may n v = true) (h8 : v.kind = 8) : ∃ k, k < n ∧ v = ⟨8, k, ⟨#[]⟩⟩ := by
  obtain ⟨vk, vi, vt⟩ := v
  dsimp only at h8
  subst h8
  simp [may] at h
  exact ⟨vi.toNat, by omega, by rw [h.1]; congr; omega⟩
end Hp
theorem is_any {w : World} {h : Nat} {O : Nat → Prop} {T : List Hp.Th} (H : HSt w 65 h O T) (v : Hp.V) (hm : Hp.may T.length v = true) (ht : v.text.size ≤ maxLen) (l : Int) (hl : Hp.letterOk l) :
    Calls Try.prog 27 #[.pointer (some ⟨h, 0, none⟩), v.val, .int .u8 l] w fun e w' => e = .returned (.bool (Hp.okAt T (v, l))) ∧ Below w.heap.size w w' := by
  obtain ⟨vt, M, H, rfl⟩ := H
  by_cases h8 : v.kind = 8
  · obtain ⟨k, hk, rfl⟩ := Hp.may_thing' hm h8
    obtain ⟨m, hmm⟩ : ∃ m, M[k]? = some m := ⟨_, List.getElem?_eq_getElem (by simpa using hk)⟩
    have e : Hp.okAt (M.map (·.1)) (⟨8, k, ⟨#[]⟩⟩, l) = Hp.isL m.1.kind 8 l := by
      simp [Hp.okAt, Hp.kindOf, List.getElem?_map, hmm]
    rw [e]
    exact is_thing l hl w H hmm
  · obtain ⟨a, c, rfl⟩ := H.shape
    have e : Hp.okAt (M.map (·.1)) (v, l) = Hp.isL (-1) v.kind l := by
      simp [Hp.okAt, Hp.kindOf, h8]
    rw [e]
    exact is_other h M.length c a v l hl ht w H.c0 h8
theorem all_st {w : World} {h : Nat} {O : Nat → Prop} {T : List Hp.Th} (H : HSt w 65 h O T) {av : Value} {l : List Hp.V} (hv : VSl w av l) (hlen : l.length ≤ 1000000) (ht : ∀ x ∈ l, x.text.size ≤ maxLen) :
    Makes w 26 #[.pointer (some ⟨h, 0, none⟩), av] (.bool (l.all (Hp.may T.length))) := by
  intro w1 hb
  obtain ⟨vt, M, H2, e⟩ := H.below hb (Nat.le_refl _)
  obtain ⟨a, c, rfl⟩ := H2.shape
  have el : T.length = M.length := by rw [← e, List.length_map]
  rw [el]
  exact all_any h M.length c a av l w1 H2.c0 (hv.below hb (Nat.le_refl _)) hlen ht
def atG (T : List Hp.Th) (l : List Hp.V) (ls : List Int) (k : Nat) : Bool := match (l.zip ls)[k]? with | some q => Hp.okAt T q | none => true
theorem isAt_row {w : World} {h : Nat} {O : Nat → Prop} {T : List Hp.Th} (H : HSt w 65 h O T) (x : Hp.Row) (hx : x ∈ Hp.tab) (l : List Hp.V) (hm : ∀ v ∈ l, Hp.may T.length v = true) (ht : ∀ v ∈ l, v.text.size ≤ maxLen) : IsAt w h l x.bytes (atG T l x.letters) := by
  intro k v hk hv w1 hb
  have e1 : x.letters[k]? = some ((x.bytes[k].toNat : Nat) : Int) := by rw [← Hp.tab_bytes x hx]; exact Nm.bytesI_get _ hk
  have e2 : atG T l x.letters k = Hp.okAt T (v, ((x.bytes[k].toNat : Nat) : Int)) := by
    have ez : (l.zip x.letters)[k]? = some (v, ((x.bytes[k].toNat : Nat) : Int)) := by rw [List.getElem?_zip_eq_some]; exact ⟨hv, e1⟩
    unfold atG
    rw [ez]
  rw [e2]
  exact is_any (H.below hb (Nat.le_refl _)) v (hm v (List.mem_of_getElem? hv)) (ht v (List.mem_of_getElem? hv)) _ (Hp.tab_ok x hx _ (List.mem_of_getElem? e1))
theorem atG_all {T : List Hp.Th} {l : List Hp.V} {ls : List Int} (h : Hp.allOk T l ls = true) (k : Nat) : atG T l ls k = true := by
  unfold atG
  split
  · rename_i q hq
    exact List.all_eq_true.1 h q (List.mem_of_getElem? hq)
  · rfl
theorem row_size {x : Hp.Row} (hx : x ∈ Hp.tab) : x.bytes.size = x.letters.length := by rw [← Hp.tab_bytes x hx, Nm.bytesI_length]
/-- A call that act does. -/
theorem do_row_act {w : World} {h : Nat} {O : Nat → Prop} {T : List Hp.Th} (H : HSt w 65 h O T) (x : Hp.Row) (hx : x ∈ Hp.tab) (hask : x.ask = -1 ∧ x.letter = 0) (hops : ∀ q ∈ Hp.ops, (q == x.name.toList) = false) (av : Value) (l : List Hp.V) (hv : VSl w av l) (hlen : l.length = x.letters.length) (hl3 : l.length ≤ 1000) (hm : ∀ v ∈ l, Hp.may T.length v = true) (ht : ∀ v ∈ l, v.text.size ≤ maxLen) (hok : Hp.allOk T l x.letters = true) (r : Hp.V) (er : Int) (T' : List Hp.Th)
    (hAct : After w 1 fun w1 => Calls Try.prog 31 #[.pointer (some ⟨h, 0, none⟩), .string x.name, av] w1 (DoPost 65 h O r er T' w1)) :
    Calls Try.prog 11 #[.pointer (some ⟨h, 0, none⟩), .string x.name, av] w (DoPost 65 h O r er T' w) := by
  have hA := all_st H hv (by omega) ht
  have e : l.all (Hp.may T.length) = true := List.all_eq_true.2 hm
  rw [e] at hA
  have hK : Still 28 #[.string x.name] (.tuple #[.int .i64 (-1), .int .u8 0]) := fun w1 => by
    have := asks_at x hx w1
    rw [hask.1, hask.2] at this
    exact this
  exact do_act h x.name x.bytes av l w hv (by rw [hlen, row_size hx]) hl3 (atG T l x.letters) (wants_at x hx) hA (isAt_row H x hx l hm ht) (fun k _ => atG_all hok k) O r er T' H.lt hK hops hAct
theorem op_ne {p : ByteArray} (h : (Hp.ops.all fun q => !(q == p.data.toList)) = true) : ∀ q ∈ Hp.ops, (q == p.toList) = false := by
  intro q hq
  have := List.all_eq_true.1 h q hq
  rw [Lib.toList_data]
  simpa using this
theorem tab_at (i : Nat) (x : Hp.Row) (h : Hp.tab[i]? = some x) : x ∈ Hp.tab := List.mem_of_getElem? h
section
variable {w : World} {h : Nat} {O : Nat → Prop} {T : List Hp.Th}
theorem use_cons (H : HSt w 65 h O T) (x y : Hp.V) (av : Value) (hv : VSl w av [x, y]) (hf : Hp.free O av) (hT : T.length ≤ 1000000) (hm : ∀ v ∈ [x, y], Hp.may T.length v = true) (ht : ∀ v ∈ [x, y], v.text.size ≤ maxLen) :
    Calls Try.prog 11 #[.pointer (some ⟨h, 0, none⟩), .string ⟨#[99, 111, 110, 115]⟩, av] w (DoPost 65 h O ⟨8, T.length, ⟨#[]⟩⟩ 0 (T ++ [⟨0, [x, y]⟩]) w) := by
  refine do_row_act H ⟨⟨#[99, 111, 110, 115]⟩, [46, 46], ⟨#[46, 46]⟩, -1, 0⟩ (tab_at 18 _ rfl) ⟨rfl, rfl⟩ (op_ne (by decide +kernel)) av [x, y] hv rfl (by simp) hm ht rfl _ _ _ ?_
  intro w1 hb _
  exact act_cons h O T x y av w1 (hv.below hb (Nat.le_refl _)) (H.below hb (Nat.le_refl _)) hf hT
theorem use_get {k : Nat} {t : Hp.Th} (H : HSt w 65 h O T) (hk : T[k]? = some t) (h0 : t.kind = 0) (hl : t.parts.length ≤ 1000000) (r : Hp.V) (hr : t.parts[0]? = some r) (av : Value) (hv : VSl w av [⟨8, k, ⟨#[]⟩⟩]) (hf : Hp.free O av) :
    Calls Try.prog 11 #[.pointer (some ⟨h, 0, none⟩), .string ⟨#[99, 97, 114]⟩, av] w (DoPost 65 h O r 0 T w) := by
  have hkl : k < T.length := (List.getElem?_eq_some_iff.1 hk).1
  refine do_row_act H ⟨⟨#[99, 97, 114]⟩, [112], ⟨#[112]⟩, -1, 0⟩ (tab_at 19 _ rfl) ⟨rfl, rfl⟩ (op_ne (by decide +kernel)) av _ hv rfl (by simp) (by intro v hv; simp at hv; subst hv; simp [Hp.may]; omega) (by intro v hv; simp at hv; subst hv; exact Nat.zero_le _) (by simp [Hp.allOk, Hp.okAt, Hp.kindOf, hk, Hp.isL, h0]) _ _ _ ?_
  intro w1 hb _
  refine act_get0 h O T r 0 ⟨#[99, 97, 114]⟩ (.inl rfl) _ av w1 (hv.below hb (Nat.le_refl _)) (fun b ho => Nat.lt_of_lt_of_le (H.lt b ho) hb.size) hf ?_
  intro w2 hb2 _
  have H2 := (H.below hb (Nat.le_refl _)).below hb2 (Nat.le_refl _)
  obtain ⟨vt, M, HA, e⟩ := H2
  obtain ⟨m, hm, hmt⟩ : ∃ m, M[k]? = some m ∧ m.1 = t := by
    rw [← e, List.getElem?_map] at hk
    simpa using hk
  subst hmt
  refine (get_in 1 0 ⟨#[]⟩ r w2 HA hm hl hr).mono ?_
  rintro e' w3 ⟨rfl, hb3⟩
  exact DoPost.read ⟨vt, M, HA, e⟩ rfl hb3
theorem use_makev (H : HSt w 65 h O T) (n : Nat) (y : Hp.V) (av : Value) (hv : VSl w av [⟨1, n, ⟨#[]⟩⟩, y]) (hf : Hp.free O av) (hT : T.length ≤ 1000000) (hn : n ≤ 1000) (hm : Hp.may T.length y = true) (ht : y.text.size ≤ maxLen) :
    Calls Try.prog 11 #[.pointer (some ⟨h, 0, none⟩), .string ⟨#[109, 97, 107, 101, 45, 118, 101, 99, 116, 111, 114]⟩, av] w (DoPost 65 h O ⟨8, T.length, ⟨#[]⟩⟩ 0 (T ++ [⟨1, List.replicate n y⟩]) w) := by
  refine do_row_act H ⟨⟨#[109, 97, 107, 101, 45, 118, 101, 99, 116, 111, 114]⟩, [105, 46], ⟨#[105, 46]⟩, -1, 0⟩ (tab_at 23 _ rfl) ⟨rfl, rfl⟩ (op_ne (by decide +kernel)) av _ hv rfl (by simp) ?_ ?_ (by simp [Hp.allOk, Hp.okAt, Hp.isL]) _ _ _ ?_
  · intro v hv
    simp at hv
    rcases hv with rfl | rfl
    · simp [Hp.may]
      exact isN_iff.2 (by omega)
    · exact hm
  · intro v hv
    simp at hv
    rcases hv with rfl | rfl
    · show 0 ≤ maxLen
      decide
    · exact ht
  intro w1 hb _
  refine act_makev h O _ _ 0 ⟨#[109, 97, 107, 101, 45, 118, 101, 99, 116, 111, 114]⟩ rfl _ _ av w1 (hv.below hb (Nat.le_refl _)) (fun b ho => Nat.lt_of_lt_of_le (H.lt b ho) hb.size) hf ?_
  intro w2 hb2 _
  exact filled_in h O T 1 n y w2 ((H.below hb (Nat.le_refl _)).below hb2 (Nat.le_refl _)) hT hn
end
end Go.Proofs.Ythbnhneibpoooaa
/- The heap's Do by a row of the table: places, numbers, refusals. -/
namespace Go.Proofs.Ythbnhneibpoooaa
open Go.RowKit
set_option linter.unusedVariables false
set_option linter.unusedSimpArgs false
section
variable {w : World} {h : Nat} {O : Nat → Prop} {T : List Hp.Th}
theorem HSt.find {k : Nat} {t : Hp.Th} (H : HSt w 65 h O T) (hk : T[k]? = some t) : ∃ vt M m, HpAt w 65 h O vt M ∧ M.map (·.1) = T ∧ M[k]? = some m ∧ m.1 = t := by
  obtain ⟨vt, M, HA, e⟩ := H
  rw [← e, List.getElem?_map] at hk
  obtain ⟨m, hm, hmt⟩ : ∃ m, M[k]? = some m ∧ m.1 = t := by simpa using hk
  exact ⟨vt, M, m, HA, e, hm, hmt⟩
theorem may_8 {n k : Nat} (h : k < n) : Hp.may n ⟨8, k, ⟨#[]⟩⟩ = true := by
  simp [Hp.may]
  omega
theorem may_1 {n : Nat} {j : Int} (h : isN j = true) : Hp.may n ⟨1, j, ⟨#[]⟩⟩ = true := by
  simp [Hp.may]
  exact h
/-- A vector's place. -/
theorem use_ref {k : Nat} {t : Hp.Th} (H : HSt w 65 h O T) (hk : T[k]? = some t) (h1 : t.kind = 1) (hl : t.parts.length ≤ 1000000) (j : Nat) (r : Hp.V) (hr : t.parts[j]? = some r) (hj : j ≤ 1000000) (av : Value) (hv : VSl w av [⟨8, k, ⟨#[]⟩⟩, ⟨1, j, ⟨#[]⟩⟩]) (hf : Hp.free O av) :
    Calls Try.prog 11 #[.pointer (some ⟨h, 0, none⟩), .string ⟨#[118, 101, 99, 116, 111, 114, 45, 114, 101, 102]⟩, av] w (DoPost 65 h O r 0 T w) := by
  have hkl : k < T.length := (List.getElem?_eq_some_iff.1 hk).1
  refine do_row_act H ⟨⟨#[118, 101, 99, 116, 111, 114, 45, 114, 101, 102]⟩, [118, 105], ⟨#[118, 105]⟩, -1, 0⟩ (tab_at 27 _ rfl) ⟨rfl, rfl⟩ (op_ne (by decide +kernel)) av _ hv rfl (by simp) ?_ ?_ (by simp [Hp.allOk, Hp.okAt, Hp.kindOf, hk, Hp.isL, h1]) _ _ _ ?_
  · intro v hv
    simp at hv
    rcases hv with rfl | rfl
    · exact may_8 hkl
    · exact may_1 (isN_iff.2 (by omega))
  · intro v hv
    simp at hv
    rcases hv with rfl | rfl <;> exact Nat.zero_le _
  intro w1 hb _
  refine act_ref h O T r 0 ⟨#[118, 101, 99, 116, 111, 114, 45, 114, 101, 102]⟩ (.inl rfl) _ _ av w1 (hv.below hb (Nat.le_refl _)) (fun b ho => Nat.lt_of_lt_of_le (H.lt b ho) hb.size) hf ?_
  intro w2 hb2 _
  obtain ⟨vt, M, m, HA, e, hm, rfl⟩ := ((H.below hb (Nat.le_refl _)).below hb2 (Nat.le_refl _)).find hk
  refine (get_in 1 j ⟨#[]⟩ r w2 HA hm hl hr).mono ?_
  rintro e' w3 ⟨rfl, hb3⟩
  exact DoPost.read ⟨vt, M, HA, e⟩ rfl hb3
theorem use_set {k : Nat} {t : Hp.Th} (H : HSt w 65 h O T) (hk : T[k]? = some t) (h1 : t.kind = 1) (hl : t.parts.length ≤ 1000000) (j : Nat) (x : Hp.V) (hj : j < t.parts.length) (av : Value) (hv : VSl w av [⟨8, k, ⟨#[]⟩⟩, ⟨1, j, ⟨#[]⟩⟩, x]) (hf : Hp.free O av) (hx : Hp.may T.length x = true) (ht : x.text.size ≤ maxLen) :
    Calls Try.prog 11 #[.pointer (some ⟨h, 0, none⟩), .string ⟨#[118, 101, 99, 116, 111, 114, 45, 115, 101, 116, 33]⟩, av] w (DoPost 65 h O Hp.void 0 (T.set k ⟨1, t.parts.set j x⟩) w) := by
  have hkl : k < T.length := (List.getElem?_eq_some_iff.1 hk).1
  refine do_row_act H ⟨⟨#[118, 101, 99, 116, 111, 114, 45, 115, 101, 116, 33]⟩, [118, 105, 46], ⟨#[118, 105, 46]⟩, -1, 0⟩ (tab_at 29 _ rfl) ⟨rfl, rfl⟩ (op_ne (by decide +kernel)) av _ hv rfl (by simp) ?_ ?_ (by simp [Hp.allOk, Hp.okAt, Hp.kindOf, hk, Hp.isL, h1]) _ _ _ ?_
  · intro v hv
    simp at hv
    rcases hv with rfl | rfl | rfl
    · exact may_8 hkl
    · exact may_1 (isN_iff.2 (by omega))
    · exact hx
  · intro v hv
    simp at hv
    rcases hv with rfl | rfl | rfl
    · exact Nat.zero_le _
    · exact Nat.zero_le _
    · exact ht
  intro w1 hb _
  refine act_put h O _ Hp.void 0 ⟨#[118, 101, 99, 116, 111, 114, 45, 115, 101, 116, 33]⟩ (.inl rfl) _ _ _ av w1 (hv.below hb (Nat.le_refl _)) (fun b ho => Nat.lt_of_lt_of_le (H.lt b ho) hb.size) hf ?_
  intro w2 hb2 _
  obtain ⟨vt, M, m, HA, e, hm, rfl⟩ := ((H.below hb (Nat.le_refl _)).below hb2 (Nat.le_refl _)).find hk
  refine (put_in 1 j ⟨#[]⟩ x w2 HA hm hl hj).mono ?_
  rintro e' w3 ⟨rfl, h2, h3⟩
  rw [e, h1] at h2
  exact ⟨O, rfl, h2, h3⟩
theorem use_set_out {k : Nat} {t : Hp.Th} (H : HSt w 65 h O T) (hk : T[k]? = some t) (h1 : t.kind = 1) (hl : t.parts.length ≤ 1000000) (j : Int) (x : Hp.V) (hj : j < 0 ∨ (t.parts.length : Int) ≤ j) (hN : isN j = true) (av : Value) (hv : VSl w av [⟨8, k, ⟨#[]⟩⟩, ⟨1, j, ⟨#[]⟩⟩, x]) (hf : Hp.free O av) (hx : Hp.may T.length x = true) (ht : x.text.size ≤ maxLen) :
    Calls Try.prog 11 #[.pointer (some ⟨h, 0, none⟩), .string ⟨#[118, 101, 99, 116, 111, 114, 45, 115, 101, 116, 33]⟩, av] w (DoPost 65 h O Hp.none 83 T w) := by
  have hkl : k < T.length := (List.getElem?_eq_some_iff.1 hk).1
  refine do_row_act H ⟨⟨#[118, 101, 99, 116, 111, 114, 45, 115, 101, 116, 33]⟩, [118, 105, 46], ⟨#[118, 105, 46]⟩, -1, 0⟩ (tab_at 29 _ rfl) ⟨rfl, rfl⟩ (op_ne (by decide +kernel)) av _ hv rfl (by simp) ?_ ?_ (by simp [Hp.allOk, Hp.okAt, Hp.kindOf, hk, Hp.isL, h1]) _ _ _ ?_
  · intro v hv
    simp at hv
    rcases hv with rfl | rfl | rfl
    · exact may_8 hkl
    · exact may_1 hN
    · exact hx
  · intro v hv
    simp at hv
    rcases hv with rfl | rfl | rfl
    · exact Nat.zero_le _
    · exact Nat.zero_le _
    · exact ht
  intro w1 hb _
  refine act_put h O _ Hp.none 83 ⟨#[118, 101, 99, 116, 111, 114, 45, 115, 101, 116, 33]⟩ (.inl rfl) _ _ _ av w1 (hv.below hb (Nat.le_refl _)) (fun b ho => Nat.lt_of_lt_of_le (H.lt b ho) hb.size) hf ?_
  intro w2 hb2 _
  obtain ⟨vt, M, m, HA, e, hm, rfl⟩ := ((H.below hb (Nat.le_refl _)).below hb2 (Nat.le_refl _)).find hk
  refine (put_out ⟨1, j, ⟨#[]⟩⟩ x w2 HA hm hl hj).mono ?_
  rintro e' w3 ⟨rfl, hb3⟩
  exact DoPost.read ⟨vt, M, HA, e⟩ rfl hb3
/-- A refusal. -/
theorem use_bad (H : HSt w 65 h O T) (x : Hp.Row) (hx : x ∈ Hp.tab) (av : Value) (l : List Hp.V) (hv : VSl w av l) (hlen : l.length ≤ 1000000) (ht : ∀ v ∈ l, v.text.size ≤ maxLen) (hm : l.all (Hp.may T.length) = false) :
    Calls Try.prog 11 #[.pointer (some ⟨h, 0, none⟩), .string x.name, av] w (DoPost 65 h O Hp.none 1 T w) := by
  have hA := all_st H hv hlen ht
  rw [hm] at hA
  obtain ⟨a, c, rfl⟩ := hv.len
  refine (do_bad h x.name x.bytes true false _ _ c a rfl w (wants_at x hx) hA (.inr (.inr rfl))).mono ?_
  rintro e w' ⟨rfl, hb⟩
  exact DoPost.read H rfl hb
theorem use_quot (H : HSt w 65 h O T) (a b : Int) (av : Value) (hv : VSl w av [⟨1, a, ⟨#[]⟩⟩, ⟨1, b, ⟨#[]⟩⟩]) (ha : isN a = true) (hb : isN b = true) :
    Calls Try.prog 11 #[.pointer (some ⟨h, 0, none⟩), .string ⟨#[113, 117, 111, 116, 105, 101, 110, 116]⟩, av] w (DoPost 65 h O (Hp.reckF 3 a b).1 (Hp.reckF 3 a b).2 T w) := by
  have hx := tab_at 3 ⟨⟨#[113, 117, 111, 116, 105, 101, 110, 116]⟩, [105, 105], ⟨#[105, 105]⟩, -1, 0⟩ rfl
  have hm : ∀ v ∈ [(⟨1, a, ⟨#[]⟩⟩ : Hp.V), ⟨1, b, ⟨#[]⟩⟩], Hp.may T.length v = true := by
    intro v hv
    simp at hv
    rcases hv with rfl | rfl
    · exact may_1 ha
    · exact may_1 hb
  have ht : ∀ v ∈ [(⟨1, a, ⟨#[]⟩⟩ : Hp.V), ⟨1, b, ⟨#[]⟩⟩], v.text.size ≤ maxLen := by
    intro v hv
    simp at hv
    rcases hv with rfl | rfl <;> exact Nat.zero_le _
  have hA := all_st H hv (by simp) ht
  rw [List.all_eq_true.2 hm] at hA
  have hK : Still 28 #[.string ⟨#[113, 117, 111, 116, 105, 101, 110, 116]⟩] (.tuple #[.int .i64 (-1), .int .u8 0]) := fun w1 => asks_at _ hx w1
  refine (do_op3 h ⟨#[113, 117, 111, 116, 105, 101, 110, 116]⟩ ⟨#[105, 105]⟩ av [⟨1, a, ⟨#[]⟩⟩, ⟨1, b, ⟨#[]⟩⟩] w hv rfl (by simp) (atG T _ [105, 105]) (wants_at _ hx) hA (isAt_row H _ hx _ hm ht) (fun k _ => atG_all (by simp [Hp.allOk, Hp.okAt, Hp.isL]) k) (Hp.reckF 3 a b).1 (Hp.reckF 3 a b).2 _ _ rfl hK rfl (fun w1 => hreckon_any 3 ⟨1, a, ⟨#[]⟩⟩ ⟨1, b, ⟨#[]⟩⟩ w1 ha hb)).mono ?_
  rintro e w' ⟨rfl, hb⟩
  exact DoPost.read H rfl hb
end
end Go.Proofs.Ythbnhneibpoooaa
