/- Slices of values; slices.ContainsFunc; the heap's all. -/
import Derived.Shelf.SlicesQ.IndexFunc
import Derived.Test.YtalfnaielhbocaaKJae
import Derived.Test.YtalfnaielhbocaaKJai
import Derived.Test.YtalfnaielhbocaaKJaj
set_option linter.unusedVariables false
set_option linter.unusedSimpArgs false
set_option linter.unnecessarySimpa false
namespace Go.Proofs.Ytalfnaielhbocaa
open Go.RowKit
set_option maxRecDepth 100000
set_option linter.unusedVariables false
set_option linter.unusedSimpArgs false
def VSl (w : World) (v : Value) (l : List Hp.V) : Prop :=
  ∃ a cap, v = .slice a l.length cap ∧ ((a = none ∧ cap = 0 ∧ l = []) ∨ ∃ ad, a = some ad ∧ ∀ j u, (Hp.flatV l)[j]? = some u → w.cell? (ad.add j) = some u)
theorem VSl.at {w : World} {a : Option Addr} {n cap : Nat} {l : List Hp.V} (h : VSl w (.slice a n cap) l) (hne : l ≠ []) :
    ∃ b off, a = some ⟨b, off, none⟩ ∧ b < w.heap.size ∧ ∀ (j : Nat) (x : Hp.V), l[j]? = some x → w.cell? ⟨b, off + j * 3, none⟩ = some (.int .i64 x.kind) ∧ w.cell? ⟨b, off + j * 3 + 1, none⟩ = some (.int .i64 x.int) ∧ w.cell? ⟨b, off + j * 3 + 2, none⟩ = some (.string x.text) := by
  obtain ⟨a', cap', hv, h | ⟨ad, h1, h2⟩⟩ := h
  · exact absurd h.2.2 hne
  · cases hv
    subst h1
    obtain ⟨x0, l', rfl⟩ := List.exists_cons_of_ne_nil hne
    have h0 := h2 0 (.int .i64 x0.kind) rfl
    obtain ⟨b, off, spot⟩ := ad
    have hspot : spot = none := by simpa [Addr.add] using World.cell?_spot h0
    subst hspot
    refine ⟨b, off, rfl, ?_, fun j x hx => ?_⟩
    · have := World.block_lt_of_cell? w _ h0
      simpa [Addr.add] using this
    · obtain ⟨f1, f2, f3⟩ := Hp.flatV_at _ j x hx
      have g1 := h2 _ _ f1
      have g2 := h2 _ _ f2
      have g3 := h2 _ _ f3
      rw [Go.WideShapes.add_plain] at g1 g2 g3
      exact ⟨g1, by rw [Nat.add_assoc]; exact g2, by rw [Nat.add_assoc]; exact g3⟩
theorem VSl.len {w : World} {v : Value} {l : List Hp.V} (h : VSl w v l) : ∃ a cap, v = .slice a l.length cap := by
  obtain ⟨a, cap, h, _⟩ := h
  exact ⟨a, cap, h⟩
theorem VSl.of {w w' : World} {v : Value} {l : List Hp.V} (h : VSl w v l) (hc : ∀ p, p.block < w.heap.size → w'.cell? p = w.cell? p) : VSl w' v l := by
  obtain ⟨a, cap, hv, h | ⟨ad, h1, h2⟩⟩ := h
  · exact ⟨a, cap, hv, .inl h⟩
  · exact ⟨a, cap, hv, .inr ⟨ad, h1, fun j u hu => (hc _ (World.block_lt_of_cell? w _ (h2 j u hu))).trans (h2 j u hu)⟩⟩
theorem VSl.below {w w' : World} {v : Value} {l : List Hp.V} {N : Nat} (h : VSl w v l) (hb : Below N w w') (hN : w.heap.size ≤ N) : VSl w' v l := h.of fun p hp => hb.cell (p := p) (by omega)
theorem VSl.drewN {w : World} {v : Value} {l : List Hp.V} (h : VSl w v l) (n : Nat) : VSl (w.drewN n) v l := h
theorem VSl.own {w : World} {B e n : Nat} {v : Value} {l : List Hp.V} (h : w.ownsRow B e 3 v n (Hp.flatV l)) : VSl w v l := by
  rcases own_shape h with ⟨rfl, _, e⟩ | ⟨g, cap, rfl, _⟩
  · have hl := Hp.flatV_length l
    rw [e] at hl
    have : l = [] := List.eq_nil_of_length_eq_zero (by simp at hl; omega)
    subst this
    exact ⟨none, 0, rfl, .inl ⟨rfl, rfl, rfl⟩⟩
  · have hl := h.1
    rw [Hp.flatV_length] at hl
    have hl2 : n = l.length := by omega
    exact ⟨_, cap, by rw [hl2], .inr ⟨_, rfl, h.cells rfl⟩⟩
def IdxPost (B : Nat) (p : Hp.V → Bool) (l : List Hp.V) (w : World) (e : Ending) (w' : World) : Prop := ∃ r : Int, e = .returned (.int .i64 r) ∧ decide (0 ≤ r) = l.any p ∧ Below B w w'
set_option maxHeartbeats 2000000 in
theorem index_any (g : Nat) (lb : Array Value) (p : Hp.V → Bool) (eg : ∀ args w, (callFunc g args).run Try.prog w = .ok (.enter g args) w) (v : Value) (l : List Hp.V) (w : World) (hv : VSl w v l) (hlen : l.length ≤ 1000000)
    (hp : ∀ (W : World) (x : Hp.V), x ∈ l → Below w.heap.size w W → Calls Try.prog g (#[x.val] ++ lb) W fun e w' => e = .returned (.bool (p x)) ∧ Below W.heap.size W w') :
    Calls Try.prog 67 #[v, .func (.func g) #[] lb] w (IdxPost w.heap.size p l w) := by
  obtain ⟨a, cap, rfl⟩ := hv.len
  have HV := Lib.hid hv
  clear hv
  have HP := Lib.hid hp
  clear hp
  go_enter Try.func67, Try.ntmps67
  go_wp2_with fail
  go_loopg [5, 8] l.length (fun gg s5 s8 wr => ∃ k : Nat, k ≤ l.length ∧ gg = l.length - k ∧ s8 = .int .i64 k ∧ Hid (Below w.heap.size w wr) ∧ Hid (∀ x ∈ l.take k, p x = false))
  case atStart => exact ⟨0, Nat.zero_le _, rfl, rfl, Below.refl _ w, fun x hx => by simp at hx⟩
  case round =>
    obtain ⟨k, hk, rfl, rfl, HB, HA⟩ := hrel
    by_cases hlt : k < l.length
    · obtain ⟨x, hx⟩ : ∃ x, l[k]? = some x := ⟨_, List.getElem?_eq_getElem hlt⟩
      have hne : l ≠ [] := fun e => by rw [e] at hlt; simp at hlt
      obtain ⟨b, off, rfl, hbl, hat⟩ := (HV.out.below HB.out (Nat.le_refl _)).at hne
      obtain ⟨d0, d1, d2⟩ := hat k x hx
      have hcall := HP.out wr x (List.mem_of_getElem? hx) HB.out
      have HX := Lib.hid hx
      have hg1 : (0 : Int) ≤ k := by omega
      have hg2 : (k : Int) < l.length := by omega
      have hgw : IntKind.i64.wrap ((k : Int) + 1) = k + 1 := by rw [IntKind.wrap_i64]; omega
      have hxt : l.take (k + 1) = l.take k ++ [x] := by rw [List.take_add_one, hx]; rfl
      have HT := Lib.hid hxt
      have HW := Lib.hid hgw
      clear hat hx hne hxt hgw
      cases hq : p x with
      | true =>
        rw [hq] at hcall
        have HQ := Lib.hid hq
        clear hq
        go_wp2_with (go_at_fn g; refine hcall.mono ?_; rintro e w' ⟨rfl, hb'⟩)
        go_ret
        refine ⟨_, rfl, ?_, HB.out.trans (hb'.mono HB.out.size)⟩
        rw [decide_eq_true hg1]
        exact (List.any_eq_true.2 ⟨x, List.mem_of_getElem? HX.out, HQ.out⟩).symm
      | false =>
        rw [hq] at hcall
        have HQ := Lib.hid hq
        clear hq
        go_wp2_with (go_at_fn g; refine hcall.mono ?_; rintro e w' ⟨rfl, hb'⟩; have HB' := Lib.hid (HB.out.trans (hb'.mono HB.out.size)); clear hb')
        go_roundg (l.length - (k + 1))
        case measure => omega
        case rel =>
          refine ⟨k + 1, by omega, rfl, by go_num, HB'.out, fun y hy => ?_⟩
          rw [HT.out, List.mem_append] at hy
          rcases hy with hy | hy
          · exact HA.out y hy
          · simp at hy
            subst hy
            exact HQ.out
    · obtain rfl : k = l.length := by omega
      go_wp2_with fail
      go_ret
      refine ⟨_, rfl, ?_, HB.out⟩
      have h := HA.out
      rw [List.take_length] at h
      symm
      rw [decide_eq_false (by decide)]
      rw [List.any_eq_false]
      exact fun y hy => by simp [h y hy]
set_option maxHeartbeats 2000000 in
theorem contains_any (g : Nat) (lb : Array Value) (p : Hp.V → Bool) (eg : ∀ args w, (callFunc g args).run Try.prog w = .ok (.enter g args) w) (v : Value) (l : List Hp.V) (w : World) (hv : VSl w v l) (hlen : l.length ≤ 1000000)
    (hp : ∀ (W : World) (x : Hp.V), x ∈ l → Below w.heap.size w W → Calls Try.prog g (#[x.val] ++ lb) W fun e w' => e = .returned (.bool (p x)) ∧ Below W.heap.size W w') :
    Calls Try.prog 51 #[v, .func (.func g) #[] lb] w fun e w' => e = .returned (.bool (l.any p)) ∧ Below w.heap.size w w' := by
  have HI := Lib.hid (index_any g lb p eg v l w hv hlen hp)
  clear hv hp
  go_enter Try.func51, Try.ntmps51
  go_wp2_with fail
  with_reducible refine HI.out.mono ?_
  rintro e w' ⟨r, rfl, hr, hb⟩
  have HB := Lib.hid hb
  have HR := Lib.hid hr
  clear hb hr
  go_wp2_with fail
  go_ret
  exact ⟨by rw [← HR.out]; first | rfl | simp, HB.out⟩
end Go.Proofs.Ytalfnaielhbocaa
namespace Go.Proofs.Ytalfnaielhbocaa
open Go.RowKit
set_option maxRecDepth 100000
set_option linter.unusedVariables false
set_option linter.unusedSimpArgs false
theorem bcellH {W w1 : World} {N : Nat} (hb : Below N W w1) : (∀ b o, b < N → w1.cell? ⟨b, o, none⟩ = W.cell? ⟨b, o, none⟩) ∧ (∀ b o, b < N → w1.frozen? ⟨b, o, none⟩ = W.frozen? ⟨b, o, none⟩) :=
  ⟨fun b o h => hb.cell (p := ⟨b, o, none⟩) h, fun b o h => hb.frozen (p := ⟨b, o, none⟩) h⟩
set_option maxHeartbeats 2000000 in
set_option maxRecDepth 100000 in
theorem all1_any (q h n c : Nat) (a : Option Addr) (x : Hp.V) (hx : x.text.size ≤ maxLen) (w : World) (hq : w.cell? ⟨q, 0, none⟩ = some (.pointer (some ⟨h, 0, none⟩))) (hc : w.cell? ⟨h, 0, none⟩ = some (.slice a n c)) :
    Calls Try.prog 66 #[x.val, .pointer (some ⟨q, 0, none⟩)] w fun e w' => e = .returned (.bool (!Hp.may n x)) ∧ Below w.heap.size w w' := by
  have hh := block_lt_of_cell hc
  have hqq := block_lt_of_cell hq
  dsimp only at hh hqq
  have HX := Lib.hid hx
  clear hx
  have hm : (w.alloc (.cells #[.int .i64 x.kind, .int .i64 x.int, .string x.text] 64)).cell? ⟨h, 0, none⟩ = some (.slice a n c) := by rw [World.cell?_alloc_past _ _ _ hh]; exact hc
  have hhm : h < (w.alloc (.cells #[.int .i64 x.kind, .int .i64 x.int, .string x.text] 64)).heap.size := by simp; omega
  have HM := Lib.hid (may_any h n c a x HX.out _ hm hhm)
  clear hm hhm
  unfold Hp.V.val at *
  go_enter Try.func66, Try.ntmps66
  go_wp2_with fail
  with_reducible refine HM.out.mono ?_
  rintro e w' ⟨rfl, hb⟩
  have HB := Lib.hid hb
  clear hb
  go_wp2_with fail
  go_ret
  exact ⟨by first | rfl | simp, ((Below.refl _ _).alloc (Nat.le_refl _) _).trans (HB.out.mono (by simp))⟩
set_option maxHeartbeats 2000000 in
set_option maxRecDepth 100000 in
theorem all_any (h n c : Nat) (a : Option Addr) (v : Value) (l : List Hp.V) (w : World) (hc : w.cell? ⟨h, 0, none⟩ = some (.slice a n c)) (hv : VSl w v l) (hlen : l.length ≤ 1000000) (ht : ∀ x ∈ l, x.text.size ≤ maxLen) :
    Calls Try.prog 50 #[.pointer (some ⟨h, 0, none⟩), v] w fun e w' => e = .returned (.bool (l.all (Hp.may n))) ∧ Below w.heap.size w w' := by
  have hmf : ∀ (fn : Fn) (first cap : Array Value) (w : World), (Instr.makeFunc fn first cap).run Try.prog w = .ok (.func fn first cap) w := fun _ _ _ _ => rfl
  have hh := block_lt_of_cell hc
  dsimp only at hh
  have HH := Lib.hid hh
  have HC := Lib.hid hc
  have HV := Lib.hid hv
  have HT := Lib.hid ht
  clear hc hv ht hh
  have HK : Hid (Calls Try.prog 51 #[v, .func (.func 66) #[] #[.pointer (some ⟨w.heap.size, 0, none⟩)]] (w.alloc (.cells #[.pointer (some ⟨h, 0, none⟩)] 60)) fun e w' => e = .returned (.bool (l.any fun x => !Hp.may n x)) ∧ Below (w.heap.size + 1) (w.alloc (.cells #[.pointer (some ⟨h, 0, none⟩)] 60)) w') := by
    have hA := (Below.refl w.heap.size w).alloc (Nat.le_refl _) (.cells #[.pointer (some ⟨h, 0, none⟩)] 60)
    have hs : (w.alloc (.cells #[.pointer (some ⟨h, 0, none⟩)] 60)).heap.size = w.heap.size + 1 := by simp
    rw [← hs]
    refine contains_any 66 _ _ (fun _ _ => rfl) v l _ (HV.out.below hA (Nat.le_refl _)) hlen fun W x hx hb => ?_
    refine all1_any w.heap.size h n c a x (HT.out x hx) W ?_ ?_
    · rw [hb.cell (p := ⟨w.heap.size, 0, none⟩) (by simp), World.cell?_alloc_at _ _ _ _ rfl]
      rfl
    · rw [hb.cell (p := ⟨h, 0, none⟩) (by simp; exact Nat.lt_succ_of_lt HH.out), hA.cell (p := ⟨h, 0, none⟩) HH.out]
      exact HC.out
  go_enter Try.func50, Try.ntmps50
  go_wp2_with fail
  with_reducible refine HK.out.mono ?_
  rintro e w' ⟨rfl, hb⟩
  have HB := Lib.hid hb
  clear hb
  go_wp2_with fail
  go_ret
  refine ⟨?_, ((Below.refl _ _).alloc (Nat.le_refl _) _).trans (HB.out.mono (by omega))⟩
  have e : l.all (Hp.may n) = !l.any fun x => !Hp.may n x := by rw [← List.not_all_eq_any_not, Bool.not_not]
  rw [e]
  rfl
theorem infoVal : (Try.prog.info? 64).map (fun i => (i.zero, i.size, i.bytes)) = some (some (.agg #[.int .i64 0, .int .i64 0, .string ⟨#[]⟩]), 3, 32) := by kernel_rfl
theorem alloc_cellsH {w : World} {ad : Addr} {zs : List Value} (h : ∀ j u, zs[j]? = some u → w.cell? (ad.add j) = some u) (o : Obj) : ∀ j u, zs[j]? = some u → (w.alloc o).cell? (ad.add j) = some u := by
  intro j u hu
  have h1 := h j u hu
  have h2 := World.block_lt_of_cell? w _ h1
  exact (((Below.refl w.heap.size w).alloc (Nat.le_refl _) o).cell (p := ad.add j) h2).trans h1
def CloneV (l : List Hp.V) (w : World) (e : Ending) (w' : World) : Prop := ∃ a c, e = .returned (.slice a l.length c) ∧ w'.ownsRow w.heap.size 64 3 (.slice a l.length c) l.length (Hp.flatV l) ∧ Below w.heap.size w w'
theorem own_slice {w : World} {B e size n : Nat} {v : Value} {xs : List Value} (h : w.ownsRow B e size v n xs) : ∃ a c, v = .slice a n c := by
  rcases own_shape h with ⟨e, e2, _⟩ | ⟨g, c, e, _⟩
  · exact ⟨none, 0, by rw [e, e2]⟩
  · exact ⟨_, c, e⟩
set_option maxHeartbeats 1000000 in
set_option maxRecDepth 100000 in
theorem clone_any (v : Value) (l : List Hp.V) (w : World) (h : VSl w v l) (hlen : l.length ≤ 1000000) :
    Calls Try.prog 48 #[v] w (CloneV l w) := by
  obtain ⟨a, cap, rfl, hsl⟩ := h
  rcases hsl with ⟨rfl, rfl, rfl⟩ | ⟨ad, rfl, hc⟩
  · have hnn : ∀ w : World, (binOp .eql 66 (.slice none 0 0) (.slice none 0 0)).run Try.prog w = .ok (.bool true) w := fun w => by rw [Lib.run_eql_slice_nil (h := Try.underlying66)]; rfl
    have HO := Lib.hid (World.ownsRow_nil w w.heap.size 64 3)
    go_enter Try.func48, Try.ntmps48
    go_wp2
    go_ret
    exact ⟨_, _, rfl, HO.out, Below.refl _ _⟩
  · have hnn : ∀ w : World, (binOp .eql 66 (.slice (some ad) l.length cap) (.slice none 0 0)).run Try.prog w = .ok (.bool false) w := fun w => by rw [Lib.run_eql_slice_nil (h := Try.underlying66)]; rfl
    obtain ⟨i0, hi, hz0, hz1, hz2⟩ := info_parts infoVal
    have HI := Lib.hid hi
    have HZ0 := Lib.hid hz0
    have HZ1 := Lib.hid hz1
    have HZ2 := Lib.hid hz2
    have HC := Lib.hid hc
    have H1 := Lib.hid (Hp.flatV_one l)
    have HL := Lib.hid (Hp.flatV_length l)
    clear hi hz0 hz1 hz2 hc
    have HE := Lib.hid (World.ownsRow_lit (base := w.heap.size) (e := 64) (size := 3) w #[] 0 (Nat.le_refl _) (by decide) rfl)
    go_enter Try.func48, Try.ntmps48
    go_wp2_with (first | (at_builtin; refine wpList_append_own _ rfl (.tmp 5) (.tmp 6) 66 rfl w.heap.size 64 i0 _ 3 32 Try.underlying66 HI.out HZ0.out HZ1.out HZ2.out rfl (by decide) (.slice (some ⟨w.heap.size, 0, none⟩) 0 0) 0 [] rfl ?a2 ad l.length cap (Hp.flatV l) rfl ?a3 ?a4 ?a5 ?a6 ?a7 ?a8 ?_; (case a2 => exact HE.out); (case a3 => exact HL.out); (case a4 => exact alloc_cellsH HC.out _); (case a5 => exact H1.out); (case a6 => (simp only [maxLen]; omega)); (case a7 => omega); (case a8 => simp); intro v' w2 hown2 hgr hnil))
    go_ret
    simp only [Nat.zero_add, List.nil_append] at hown2
    obtain ⟨a2, c2, rfl⟩ := own_slice hown2
    exact ⟨_, _, rfl, hown2, ((Below.refl _ _).alloc (Nat.le_refl _) _).grown hgr (by simp) (fun k hk => by simp [Value.ownBlock] at hk; omega)⟩
end Go.Proofs.Ytalfnaielhbocaa
