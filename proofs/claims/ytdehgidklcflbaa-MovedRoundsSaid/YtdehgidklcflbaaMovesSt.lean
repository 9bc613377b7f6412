/- The state of package moves in memory, and the walk of 'move'. -/
import Derived.Test.YtdehgidklcflbaaMovesPlain
import Derived.Test.YtdehgidklcflbaaMaps
import Derived.Deep.LoopGhost
namespace Go.Proofs.Ytdehgidklcflbaa
open Go.RowKit
set_option linter.unusedVariables false

def encI (l : List (Int × Int)) : List (Int × Value) := l.map fun p => (p.1, Value.int .i64 p.2)
theorem alook_encI (l : List (Int × Int)) (k : Int) : alook (encI l) k = (Mv.look l k).map (Value.int .i64) := by
  induction l with
  | nil => rfl
  | cons p l ih =>
    unfold encI at ih ⊢
    simp only [List.map_cons, alook, Mv.look]
    split <;> simp [ih]
theorem aput_encI (l : List (Int × Int)) (k v : Int) : aput (encI l) k (.int .i64 v) = encI (Mv.put l k v) := by
  induction l with
  | nil => rfl
  | cons p l ih =>
    unfold encI at ih ⊢
    simp only [List.map_cons, aput, Mv.put]
    split <;> simp [ih]
theorem adel_encI (l : List (Int × Int)) (k : Int) : adel (encI l) k = encI (Mv.del l k) := by
  induction l with
  | nil => rfl
  | cons p l ih =>
    unfold encI at ih ⊢
    simp only [List.map_cons, adel, Mv.del]
    split <;> simp [ih]

abbrev eI : Int → Value := Value.int .i64
def IMap (w : World) (b : Nat) (F : List (Int × Int)) : Prop := AMap eI w b (encI F)

/-- The moves that are laid, as cells. -/
def flat : List (Int × Int) → List Value
  | [] => []
  | p :: l => .int .i64 p.1 :: .int .i64 p.2 :: flat l
theorem flat_append (a b : List (Int × Int)) : flat (a ++ b) = flat a ++ flat b := by
  induction a with
  | nil => rfl
  | cons p a ih => simp [flat, ih]
theorem flat_length (a : List (Int × Int)) : (flat a).length = a.length * 2 := by
  induction a with
  | nil => rfl
  | cons p a ih => simp [flat, ih]; omega

def OCells (w : World) (bo bf bw : Nat) (v : Value) : Prop := w.heap[bo]? = some (.cells #[.map (some bf), .map (some bw), v] 39 (0, 0))

theorem OCells.c0 {w : World} {bo bf bw : Nat} {v : Value} (h : OCells w bo bf bw v) : w.cell? ⟨bo, 0, none⟩ = some (.map (some bf)) := by
  rw [cell_of_row w bo 0 _ _ _ h]; rfl
theorem OCells.c1 {w : World} {bo bf bw : Nat} {v : Value} (h : OCells w bo bf bw v) : w.cell? ⟨bo, 1, none⟩ = some (.map (some bw)) := by
  rw [cell_of_row w bo 1 _ _ _ h]; rfl
theorem OCells.c2 {w : World} {bo bf bw : Nat} {v : Value} (h : OCells w bo bf bw v) : w.cell? ⟨bo, 2, none⟩ = some v := by
  rw [cell_of_row w bo 2 _ _ _ h]; rfl
theorem OCells.fz {w : World} {bo bf bw : Nat} {v : Value} (h : OCells w bo bf bw v) (i : Nat) : w.frozen? ⟨bo, i, none⟩ = false := by
  have h' : w.heap[bo]? = some (.cells #[.map (some bf), .map (some bw), v] 39 (0, 0)) := h
  simp [World.frozen?, h']
theorem OCells.kept {w w' : World} {bo bf bw : Nat} {v : Value} {row : Option Nat} (h : OCells w bo bf bw v) (hg : w.grownBy w' row) (hne : some bo ≠ row) : OCells w' bo bf bw v :=
  (hg.block bo (Array.getElem?_eq_some_iff.1 h).1 hne).trans h
theorem OCells.alloc {w : World} {bo bf bw : Nat} {v : Value} (h : OCells w bo bf bw v) (o : Obj) : OCells (w.alloc o) bo bf bw v :=
  (heap_alloc_old w o (Array.getElem?_eq_some_iff.1 h).1).trans h
theorem OCells.set {w : World} {bo bf bw : Nat} {v : Value} (h : OCells w bo bf bw v) (u : Value) : OCells (w.setCell ⟨bo, 2, none⟩ u) bo bf bw u := by
  have h' : w.heap[bo]? = some (.cells #[.map (some bf), .map (some bw), v] 39 (0, 0)) := h
  unfold OCells World.setCell
  simp only
  rw [Array.getElem?_modify]
  simp [h']

/-- The state s of an order whose blocks are N (whence), N + 1 (wants), N + 2 (the struct); the moves laid stand in a row from N + 3 on. -/
def OrdSt (w : World) (N : Nat) (s : Mv.St) : Prop :=
  ∃ v, OCells w (N + 2) N (N + 1) v ∧ IMap w N s.F ∧ IMap w (N + 1) s.W ∧ w.ownsRow (N + 3) 30 2 v s.out.length (flat s.out)

theorem own_notMap {w : World} {B e size n b : Nat} {v : Value} {xs : List Value} (h : w.ownsRow B e size v n xs) (hb : b < B) : v.ownBlock = none ∨ v.ownBlock ≠ some b := by
  cases hv : v.ownBlock with
  | none => exact .inl rfl
  | some q => exact .inr (by intro e; injection e with e; have := (h.lt q hv).1; omega)
theorem some_ne {a b : Nat} (h : a ≠ b) : (some a : Option Nat) ≠ some b := by intro e; injection e with e; exact h e

theorem OrdSt.alloc {w : World} {N : Nat} {s : Mv.St} (h : OrdSt w N s) (o : Obj) : OrdSt (w.alloc o) N s := by
  obtain ⟨v, a, b, c, d⟩ := h
  exact ⟨v, a.alloc o, AMap.alloc b o, AMap.alloc c o, d.alloc o⟩
theorem OrdSt.drewN {w : World} {N : Nat} {s : Mv.St} (h : OrdSt w N s) (n : Nat) : OrdSt (w.drewN n) N s := h
theorem OrdSt.turnF {w w' : World} {N : Nat} {s : Mv.St} {F : List (Int × Int)} (h : OrdSt w N s) (hg : w.grownBy w' (some N)) (hm : AMap eI w' N (encI F)) : OrdSt w' N ⟨F, s.W, s.out⟩ := by
  obtain ⟨v, a, b, c, d⟩ := h
  exact ⟨v, a.kept hg (some_ne (by omega)), hm, AMap.grown c hg (some_ne (by omega)), d.kept hg (own_notMap d (by omega))⟩
theorem OrdSt.turnW {w w' : World} {N : Nat} {s : Mv.St} {W : List (Int × Int)} (h : OrdSt w N s) (hg : w.grownBy w' (some (N + 1))) (hm : AMap eI w' (N + 1) (encI W)) : OrdSt w' N ⟨s.F, W, s.out⟩ := by
  obtain ⟨v, a, b, c, d⟩ := h
  exact ⟨v, a.kept hg (some_ne (by omega)), AMap.grown b hg (some_ne (by omega)), hm, d.kept hg (own_notMap d (by omega))⟩
theorem grown_drewN {w w' : World} {row : Option Nat} {n : Nat} (h : (w.drewN n).grownBy w' row) : w.grownBy w' row := ⟨h.os, h.tape, h.output, h.size, h.block⟩
theorem OrdSt.c0 {w : World} {N : Nat} {s : Mv.St} (h : OrdSt w N s) : w.cell? ⟨N + 2, 0, none⟩ = some (.map (some N)) := by obtain ⟨v, a, _⟩ := h; exact a.c0
theorem OrdSt.c1 {w : World} {N : Nat} {s : Mv.St} (h : OrdSt w N s) : w.cell? ⟨N + 2, 1, none⟩ = some (.map (some (N + 1))) := by obtain ⟨v, a, _⟩ := h; exact a.c1
theorem OrdSt.mapF {w : World} {N : Nat} {s : Mv.St} (h : OrdSt w N s) : IMap w N s.F := by obtain ⟨v, a, b, _⟩ := h; exact b
theorem OrdSt.mapW {w : World} {N : Nat} {s : Mv.St} (h : OrdSt w N s) : IMap w (N + 1) s.W := by obtain ⟨v, a, b, c, _⟩ := h; exact c

/-- What an append to the moves laid and the store of the row leave. -/
theorem OrdSt.push {w w1 : World} {N : Nat} {F W out : List (Int × Int)} {v v' : Value} {o : Obj} {a b : Int} (hC : OCells w (N + 2) N (N + 1) v) (hF : IMap w N F) (hW : IMap w (N + 1) W) (hown : w.ownsRow (N + 3) 30 2 v out.length (flat out))
    (hg : (w.alloc o).grownBy w1 v.ownBlock) (hown' : w1.ownsRow (N + 3) 30 2 v' (out.length + 1) (flat out ++ [.int .i64 a, .int .i64 b])) : OrdSt (w1.setCell ⟨N + 2, 2, none⟩ v') N ⟨F, W, out ++ [(a, b)]⟩ := by
  have hne : ∀ j, j < N + 3 → some j ≠ v.ownBlock := fun j hj e => by have := (hown.lt j e.symm).1; omega
  refine ⟨v', ?_, ?_, ?_, ?_⟩
  · exact (OCells.kept (OCells.alloc hC o) hg (hne _ (by omega))).set v'
  · exact AMap.setCell (AMap.grown (AMap.alloc hF o) hg (hne _ (by omega))) (by simp) v'
  · exact AMap.setCell (AMap.grown (AMap.alloc hW o) hg (hne _ (by omega))) (by simp) v'
  · have := ownsRow_setCell_below (a := ⟨N + 2, 2, none⟩) hown' (by simp) v'
    simpa [flat_append, flat] using this

theorem infoM : (Try.prog.info? 30).map (fun i => (i.zero, i.size, i.bytes)) = some (some (.agg #[.int .i64 0, .int .i64 0]), 2, 16) := by kernel_rfl
theorem zeroI (w : World) : (zeroValue 3).run Try.prog w = .ok (.int .i64 0) w := by kernel_rfl

theorem IMap.look {w : World} {b : Nat} {F : List (Int × Int)} (h : IMap w b F) (k : Int) (ok : Bool) :
    (Instr.lookup 37 (.map (some b)) (.int .i64 k) ok).run Try.prog w = .ok (if ok then .tuple #[.int .i64 (Mv.get F k), .bool (Mv.look F k).isSome] else .int .i64 (Mv.get F k)) w := by
  have := AMap.lookup h (keyOk_int Try.underlying3) Try.underlying37 (zeroI w) k ok
  rw [this, alook_encI]
  unfold Mv.get
  cases Mv.look F k <;> rfl

theorem OrdSt.lookF {w : World} {N : Nat} {s : Mv.St} (h : OrdSt w N s) (k : Int) (ok : Bool) (n : Nat) :
    (Instr.lookup 37 (.map (some N)) (.int .i64 k) ok).run Try.prog (w.drewN n) = .ok (if ok then .tuple #[.int .i64 (Mv.get s.F k), .bool (Mv.look s.F k).isSome] else .int .i64 (Mv.get s.F k)) (w.drewN n) :=
  IMap.look (AMap.drewN h.mapF n) k ok
theorem OrdSt.lookW {w : World} {N : Nat} {s : Mv.St} (h : OrdSt w N s) (k : Int) (ok : Bool) (n : Nat) :
    (Instr.lookup 37 (.map (some (N + 1))) (.int .i64 k) ok).run Try.prog (w.drewN n) = .ok (if ok then .tuple #[.int .i64 (Mv.get s.W k), .bool (Mv.look s.W k).isSome] else .int .i64 (Mv.get s.W k)) (w.drewN n) :=
  IMap.look (AMap.drewN h.mapW n) k ok

set_option maxHeartbeats 2000000 in
theorem move_any (N : Nat) (to : Int) (s : Mv.St) (w : World) (lo : Int) (h : OrdSt w N s) (hN : N + 3 ≤ w.heap.size) (hw : Mv.Wok s.W lo 2000) (hlo : -1000000 ≤ lo - s.F.length) (hlen : s.out.length + s.F.length ≤ 1000000) :
    Calls Try.prog 14 #[.pointer (some ⟨N + 2, 0, none⟩), .int .i64 to] w fun e w' => e = .returned (.tuple #[]) ∧ OrdSt w' N (Mv.move (s.F.length + 1) to s) ∧ Below N w w' := by
  obtain ⟨i0, hi, hz0, hz1, hz2⟩ := info_parts infoM
  have HI := Lib.hid hi
  have HZ0 := Lib.hid hz0
  have HZ1 := Lib.hid hz1
  have HZ2 := Lib.hid hz2
  clear hi hz0 hz1 hz2
  have H := Lib.hid h
  have HW := Lib.hid hw
  clear h hw
  go_enter Try.func14, Try.ntmps14
  go_wp2_with fail
  go_loopg [1] (s.F.length) (fun g t wr => ∃ (to' : Int) (s' : Mv.St) (lo' : Int), t = .int .i64 to' ∧ g = s'.F.length ∧ OrdSt wr N s' ∧ Below N w wr ∧ N + 3 ≤ wr.heap.size ∧ Mv.move (s'.F.length + 1) to' s' = Mv.move (s.F.length + 1) to s ∧ Mv.Wok s'.W lo' 2000 ∧ -1000000 ≤ lo' - s'.F.length ∧ s'.out.length + s'.F.length ≤ 1000000)
  case atStart => exact ⟨to, s, lo, rfl, rfl, H.out, Below.refl _ _, hN, rfl, HW.out, hlo, hlen⟩
  case round =>
    obtain ⟨to', s', lo', rfl, rfl, hO, hbel, hN', hmv, hW, hlo', hlen'⟩ := hrel
    obtain ⟨v, hc, hF, hWm, hown⟩ := hO
    have c0 := hc.c0
    have c1 := hc.c1
    have c2 := hc.c2
    have fz := hc.fz 2
    have l1 := hF.look to' true
    have l2 := hWm.look to' false
    have HC := Lib.hid hc
    have HF := Lib.hid hF
    have HWm := Lib.hid hWm
    have HO := Lib.hid hown
    have HM := Lib.hid hmv
    have HWk := Lib.hid hW
    clear hc hF hWm hown hmv hW
    cases hf : Mv.look s'.F to' with
    | none =>
      have hd : Hid (Mv.move (s'.F.length + 1) to' s' = s') := Mv.move_done (.inl hf)
      rw [hf] at l1
      clear hf
      go_wp2
      refine bodyPost_ret (results_none rfl _ _ _) rfl ?_
      refine ⟨rfl, ?_, hbel⟩
      rw [← HM.out, hd.out]
      exact ⟨v, HC.out, HF.out, HWm.out, HO.out⟩
    | some f =>
      rw [hf] at l1
      have hg : Mv.get s'.F to' = f := by unfold Mv.get; rw [hf]; rfl
      rw [hg] at l1
      obtain ⟨x, hx⟩ : ∃ x, Hid (Mv.get s'.W to' = x) := ⟨_, rfl⟩
      rw [hx.out] at l2
      by_cases hpos : 0 < x
      · have hd : Hid (Mv.move (s'.F.length + 1) to' s' = s') := Mv.move_done (.inr (by rw [hx.out]; exact hpos))
        clear hf hg
        go_wp2
        refine bodyPost_ret (results_none rfl _ _ _) rfl ?_
        refine ⟨rfl, ?_, hbel⟩
        rw [← HM.out, hd.out]
        exact ⟨v, HC.out, HF.out, HWm.out, HO.out⟩
      · go_wp2_with (first | (at_builtin; refine wpList_append_own _ rfl (.tmp 30) (.tmp 34) 22 rfl (N + 3) 30 i0 (.agg #[.int .i64 0, .int .i64 0]) 2 16 Try.underlying22 HI.out HZ0.out HZ1.out HZ2.out rfl (by decide) _ _ _ rfl (HO.out.alloc _) ⟨wr.heap.size, 0, none⟩ 1 1 [.int .i64 to', .int .i64 f] rfl rfl ?c1 ?c2 ?c3 ?c4 ?c5 ?_))
        case c2 => simp [Value.oneCell']
        case c3 => simp only [maxLen]; omega
        case c4 => omega
        case c5 => omega
        intro v' w1 hown1 hgr hnn
        obtain ⟨g', cap', rfl⟩ : ∃ g' cap', v' = .slice (some ⟨g', 0, none⟩) (s'.out.length + 1) cap' := by
          rcases own_shape hown1 with ⟨h, _⟩ | ⟨g', cap', h, _⟩
          · exact absurd h hnn
          · exact ⟨g', cap', h⟩
        have hlt := HO.out.lt
        have hne : ∀ j, j < N + 3 → some j ≠ v.ownBlock := fun j hj e => by have := (hlt j e.symm).1; omega
        have hC1 := (HC.out.alloc (.cells #[.int .i64 to', .int .i64 f] 30)).kept hgr (hne _ (by omega))
        have hF1 := (AMap.alloc HF.out (.cells #[.int .i64 to', .int .i64 f] 30)).grown hgr (hne _ (by omega))
        have hW1 := (AMap.alloc HWm.out (.cells #[.int .i64 to', .int .i64 f] 30)).grown hgr (hne _ (by omega))
        have hb1 : Below N w w1 := (hbel.alloc (by omega) (.cells #[.int .i64 to', .int .i64 f] 30)).grown hgr (by simp; omega) (fun q hq => by have := (hlt q hq).1; omega)
        have hs1 : N + 3 ≤ w1.heap.size := by have := hgr.size; simp at this; omega
        have HPOS := Lib.hid hpos
        clear c0 c1 c2 fz l1 l2 hnn hgr hlt hne hpos
        have c2 := hC1.c2
        have fz := hC1.fz 2
        have hC2 := hC1.set (.slice (some ⟨g', 0, none⟩) (s'.out.length + 1) cap')
        have hF2 := hF1.setCell (a := ⟨N + 2, 2, none⟩) (by simp) (.slice (some ⟨g', 0, none⟩) (s'.out.length + 1) cap')
        have hW2 := hW1.setCell (a := ⟨N + 2, 2, none⟩) (by simp) (.slice (some ⟨g', 0, none⟩) (s'.out.length + 1) cap')
        have hb2 : Below N w (w1.setCell ⟨N + 2, 2, none⟩ (.slice (some ⟨g', 0, none⟩) (s'.out.length + 1) cap')) := hb1.setCell (p := ⟨N + 2, 2, none⟩) (by simp) (.slice (some ⟨g', 0, none⟩) (s'.out.length + 1) cap')
        have ho2 : (w1.setCell ⟨N + 2, 2, none⟩ (.slice (some ⟨g', 0, none⟩) (s'.out.length + 1) cap')).ownsRow (N + 3) 30 2 (.slice (some ⟨g', 0, none⟩) (s'.out.length + 1) cap') (s'.out.length + 1) (flat s'.out ++ [.int .i64 to', .int .i64 f]) := ownsRow_setCell_below hown1 (by simp) (.slice (some ⟨g', 0, none⟩) (s'.out.length + 1) cap')
        have hs2 : N + 3 ≤ (w1.setCell ⟨N + 2, 2, none⟩ (.slice (some ⟨g', 0, none⟩) (s'.out.length + 1) cap')).heap.size := by simpa [World.setCell] using hs1
        have c0 := hC2.c0
        have HC2 := Lib.hid hC2
        have HF2 := Lib.hid hF2
        have HW2 := Lib.hid hW2
        have HB2 := Lib.hid hb2
        have HO2 := Lib.hid ho2
        have HS2 := Lib.hid hs2
        have HB := Lib.hid hbel
        have Hf := Lib.hid hf
        clear hC1 hF1 hW1 hb1 hC2 hF2 hW2 hb2 ho2 hs2 hown1 hbel hf HC HF HWm HO hg
        go_wp2_with (first | (at_delete; refine wpList_delete_amap rfl (.tmp 41) (.tmp 42) 3 rfl (keyOk_int Try.underlying3) Try.underlying37 HF2.out rfl to' rfl ?_))
        intro w2 hF3 hg3
        have hC3 := HC2.out.kept hg3 (by intro e; injection e with e; omega)
        have hW3 := AMap.grown HW2.out hg3 (by intro e; injection e with e; omega)
        have ho3 := HO2.out.kept hg3 (by
          cases hv : (Value.slice (some ⟨g', 0, none⟩) (s'.out.length + 1) cap').ownBlock with
          | none => exact .inl rfl
          | some q => exact .inr (by intro e; injection e with e; have := (HO2.out.lt q hv).1; omega))
        have hb3 : Below N w w2 := HB2.out.grown hg3 (by have := HS2.out; omega) (fun q hq => by injection hq with hq; omega)
        have hs3 : N + 3 ≤ w2.heap.size := Nat.le_trans HS2.out hg3.size
        clear c2 fz c0
        have c1 := hC3.c1
        have l3 := IMap.look hW3 f false
        obtain ⟨y, hy⟩ : ∃ y, Hid (Mv.get s'.W f = y) := ⟨_, rfl⟩
        rw [hy.out] at l3
        have hyb : -1000000 < y ∧ y ≤ 2000 := by have := HWk.out f; rw [hy.out] at this; have := Mv.del_length Hf.out; omega
        obtain ⟨hy1, hy2⟩ := hyb
        have HC3 := Lib.hid hC3
        have HW3 := Lib.hid hW3
        have HO3 := Lib.hid ho3
        have HF3 := Lib.hid hF3
        have HB3 := Lib.hid hb3
        have HS3 := Lib.hid hs3
        clear hC3 hW3 ho3 hF3 hb3 hs3 HC2 HF2 HW2 HO2 HB2 HS2 hg3
        go_wp2_with (first | (at_mapUpdate; refine wpList_update_amap rfl (.tmp 46) (.tmp 47) (.tmp 49) rfl (keyOk_int Try.underlying3) Try.underlying37 HW3.out rfl f (.int .i64 (y - 1)) rfl rfl ?_))
        intro w3 hW4 hg4
        have hC4 := HC3.out.kept hg4 (by intro e; injection e with e; omega)
        have hF4 := AMap.grown HF3.out hg4 (by intro e; injection e with e; omega)
        have ho4 := HO3.out.kept hg4 (by
          cases hv : (Value.slice (some ⟨g', 0, none⟩) (s'.out.length + 1) cap').ownBlock with
          | none => exact .inl rfl
          | some q => exact .inr (by intro e; injection e with e; have := (HO3.out.lt q hv).1; omega))
        have hb4 : Below N w w3 := HB3.out.grown hg4 (by have := HS3.out; omega) (fun q hq => by injection hq with hq; omega)
        have hs4 : N + 3 ≤ w3.heap.size := Nat.le_trans HS3.out hg4.size
        have hO4 : Hid (OrdSt w3 N (s'.lay to' f)) := by
          refine ⟨_, hC4, ?_, ?_, ?_⟩
          · unfold IMap Mv.St.lay; simp only; rw [← adel_encI]; exact hF4
          · unfold IMap Mv.St.lay; simp only; rw [hy.out, ← aput_encI]; exact hW4
          · unfold Mv.St.lay; simp only; rw [flat_append, List.length_append]; exact ho4
        have hlen2 := Mv.del_length Hf.out
        have hmv2 : Hid (Mv.move ((s'.lay to' f).F.length + 1) f (s'.lay to' f) = Mv.move (s.F.length + 1) to s) := by
          unfold Hid
          rw [← HM.out, Mv.move_step Hf.out (by rw [hx.out]; exact Int.not_lt.2 HPOS.out)]
          rw [show (s'.lay to' f).F.length + 1 = s'.F.length from hlen2]
        have hWk2 : Hid (Mv.Wok (s'.lay to' f).W (lo' - 1) 2000) := by
          refine Mv.Wok.put HWk.out _ _ (by omega) (by omega) ?_ (by rw [hy.out]; omega)
          have := HWk.out f; omega
        have hbo := Lib.hid hb4
        clear hC4 hF4 ho4 hb4 hW4 hg4 c1 l3
        go_wp2
        go_roundg (s'.lay to' f).F.length
        case measure => show (Mv.del s'.F to').length < _; omega
        case rel => exact ⟨f, s'.lay to' f, lo' - 1, rfl, rfl, hO4.out, hbo.out, hs4, hmv2.out, hWk2.out, by show _ ≤ _ - ((Mv.del s'.F to').length : Int); omega, by show (s'.out ++ [(to', f)]).length + (Mv.del s'.F to').length ≤ _; rw [List.length_append]; simp; omega⟩
end Go.Proofs.Ytdehgidklcflbaa
