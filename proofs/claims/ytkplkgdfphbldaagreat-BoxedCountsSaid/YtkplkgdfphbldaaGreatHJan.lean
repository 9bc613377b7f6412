/- Data, plainly and in memory. -/
import Derived.Deep.RegionHeld3
import Derived.Laws.Rows
import Derived.Laws.OwnMore
import Derived.Laws.AppendOwn
import Derived.Deep.MidRow
import Derived.Test.YtkplkgdfphbldaaGreatHJal
import Derived.Test.YtkplkgdfphbldaaGreatHJam
namespace Go.Proofs.YtkplkgdfphbldaaGreat
open Go.RowKit
open Go.Lib (hid)
set_option linter.unusedVariables false
set_option linter.unusedSimpArgs false
set_option linter.unnecessarySimpa false
set_option maxRecDepth 100000
inductive Dt where
 | mk (kind int : Int) (text : ByteArray) (list : List Dt)
namespace Dt
def kind : Dt → Int | mk k _ _ _ => k
def int : Dt → Int | mk _ i _ _ => i
def text : Dt → ByteArray | mk _ _ t _ => t
def list : Dt → List Dt | mk _ _ _ l => l
theorem kind_mk (k i : Int) (t : ByteArray) (l : List Dt) : (mk k i t l).kind = k := rfl
theorem int_mk (k i : Int) (t : ByteArray) (l : List Dt) : (mk k i t l).int = i := rfl
theorem text_mk (k i : Int) (t : ByteArray) (l : List Dt) : (mk k i t l).text = t := rfl
theorem list_mk (k i : Int) (t : ByteArray) (l : List Dt) : (mk k i t l).list = l := rfl
end Dt
inductive DtAt (w : World) (S : Nat → Prop) : Value → Dt → Prop
 | nil (k i : Int) (t : ByteArray) {a : Option Addr} : DtAt w S (.agg #[.int .i64 k, .int .i64 i, .string t, .slice a 0 0]) (.mk k i t [])
 | row (k i : Int) (t : ByteArray) (b off c : Nat) (l : List Dt) (lv : Nat → Value) (hS : S b) (hb : b < w.heap.size)
   (hc : ∀ j x, l[j]? = some x → w.cell? ⟨b, off + j * 4, none⟩ = some (.int .i64 x.kind) ∧ w.cell? ⟨b, off + j * 4 + 1, none⟩ = some (.int .i64 x.int) ∧ w.cell? ⟨b, off + j * 4 + 2, none⟩ = some (.string x.text) ∧ w.cell? ⟨b, off + j * 4 + 3, none⟩ = some (lv j))
   (hd : ∀ j x, l[j]? = some x → DtAt w S (.agg #[.int .i64 x.kind, .int .i64 x.int, .string x.text, lv j]) x) :
   DtAt w S (.agg #[.int .i64 k, .int .i64 i, .string t, .slice (some ⟨b, off, none⟩) l.length c]) (.mk k i t l)
theorem DtAt.same {w w' : World} {S S' : Nat → Prop} {v : Value} {d : Dt} (h : DtAt w S v d) (hS : ∀ b, S b → b < w.heap.size → S' b) (hs : w.heap.size ≤ w'.heap.size) (hc : ∀ b, S b → b < w.heap.size → w'.heap[b]? = w.heap[b]?) : DtAt w' S' v d := by
 induction h with
 | nil k i t => exact .nil k i t
 | row k i t b off c l lv hSb hb hcl hd ih =>
  have e : ∀ o, w'.cell? ⟨b, o, none⟩ = w.cell? ⟨b, o, none⟩ := fun o => World.cell?_of_block (a := ⟨b, o, none⟩) (hc b hSb hb)
  refine .row k i t b off c l lv (hS b hSb hb) (Nat.lt_of_lt_of_le hb hs) (fun j x hx => ?_) ih
  rw [e, e, e, e]
  exact hcl j x hx
theorem DtAt.bel {w w' : World} {S : Nat → Prop} {v : Value} {d : Dt} {N : Nat} (h : DtAt w S v d) (hb : Below N w w') (hN : w.heap.size ≤ N) : DtAt w' S v d := h.same (fun _ h _ => h) hb.size fun b _ hl => hb.block b (by omega)
theorem DtAt.mono {w : World} {S S' : Nat → Prop} {v : Value} {d : Dt} (h : DtAt w S v d) (hS : ∀ b, S b → b < w.heap.size → S' b) : DtAt w S' v d := h.same hS (Nat.le_refl _) fun _ _ _ => rfl
theorem DtAt.inv {w : World} {S : Nat → Prop} {v : Value} {d : Dt} (h : DtAt w S v d) : ∃ a c, v = .agg #[.int .i64 d.kind, .int .i64 d.int, .string d.text, .slice a d.list.length c] ∧
  (True ∧ c = 0 ∧ d.list = [] ∨ ∃ b off, a = some ⟨b, off, none⟩ ∧ b < w.heap.size ∧ S b ∧ ∀ j x, d.list[j]? = some x → ∃ lv, w.cell? ⟨b, off + j * 4, none⟩ = some (.int .i64 x.kind) ∧ w.cell? ⟨b, off + j * 4 + 1, none⟩ = some (.int .i64 x.int) ∧ w.cell? ⟨b, off + j * 4 + 2, none⟩ = some (.string x.text) ∧ w.cell? ⟨b, off + j * 4 + 3, none⟩ = some lv ∧
   DtAt w S (.agg #[.int .i64 x.kind, .int .i64 x.int, .string x.text, lv]) x) := by
 cases h with
 | nil k i t => exact ⟨_, 0, rfl, .inl ⟨trivial, rfl, rfl⟩⟩
 | row k i t b off c l lv hS hb hc hd =>
  refine ⟨_, c, rfl, .inr ⟨b, off, rfl, hb, hS, fun j x hx => ?_⟩⟩
  obtain ⟨h1, h2, h3, h4⟩ := hc j x hx
  exact ⟨lv j, h1, h2, h3, h4, hd j x hx⟩
namespace Dt
mutual
def depth : Dt → Nat
 | mk _ _ _ l => depths l + 1
def depths : List Dt → Nat
 | [] => 0
 | x :: l => max (depth x) (depths l)
end
theorem depth_mem : ∀ (l : List Dt) (x : Dt), x ∈ l → x.depth ≤ depths l
 | [], x, h => by simp at h
 | y :: l, x, h => by
  rw [depths]
  rcases List.mem_cons.1 h with rfl | h
  ·exact Nat.le_max_left _ _
  ·exact Nat.le_trans (depth_mem l x h) (Nat.le_max_right _ _)
theorem depth_list (d : Dt) : d.depth = depths d.list + 1 := by cases d; rw [depth]; rfl
mutual
def same : Dt → Dt → Bool
 | mk k i t l, mk k' i' t' l' => decide (k = k') && decide (i = i') && decide (t = t') && sames l l'
def sames : List Dt → List Dt → Bool
 | [], [] => true
 | x :: l, y :: m => same x y && sames l m
 | _, _ => false
end
theorem sames_len : ∀ (l m : List Dt), sames l m = true → l.length = m.length
 | [], [], _ => rfl
 | [], y :: m, h => by simp [sames] at h
 | x :: l, [], h => by simp [sames] at h
 | x :: l, y :: m, h => by
  rw [sames, Bool.and_eq_true] at h
  simp [sames_len l m h.2]
theorem sames_iff : ∀ (l m : List Dt), l.length = m.length → (sames l m = true ↔ ∀ (j : Nat) (x y : Dt), l[j]? = some x → m[j]? = some y → same x y = true)
 | [], [], _ => by simp [sames]
 | [], y :: m, h => by simp at h
 | x :: l, [], h => by simp at h
 | x :: l, y :: m, h => by
  rw [sames, Bool.and_eq_true, sames_iff l m (by simpa using h)]
  constructor
  ·rintro ⟨h1, h2⟩ j a b ha hb
   cases j with
   | zero =>
    simp at ha hb
    subst ha; subst hb
    exact h1
   | succ j => exact h2 j a b (by simpa using ha) (by simpa using hb)
  ·intro h
   exact ⟨h 0 x y rfl rfl, fun j a b ha hb => h (j + 1) a b (by simpa using ha) (by simpa using hb)⟩
end Dt
theorem bytes_ne {s t : ByteArray} (h : ¬ s = t) : (s.toList == t.toList) = false := by
 rw [beq_eq_false_iff_ne, Lib.toList_data, Lib.toList_data]
 intro e
 apply h
 cases s; cases t
 congr
 exact Array.toList_inj.1 e
set_option maxHeartbeats 2000000 in
set_option maxRecDepth 100000 in
theorem same_step (a b : Dt) (va vb : Value) (w : World) (ha : DtAt w (fun _ => True) va a) (hb : DtAt w (fun _ => True) vb b) (hla : a.list.length ≤ 1000000) (hlb : b.list.length ≤ 1000000)
  (IH : ∀ x ∈ a.list, ∀ y ∈ b.list, ∀ (vx vy : Value) (w1 : World), DtAt w1 (fun _ => True) vx x → DtAt w1 (fun _ => True) vy y → Calls Tryz.prog 32 #[vx, vy] w1 fun e w' => e = .returned (.bool (Dt.same x y)) ∧ Below w1.heap.size w1 w') :
  Calls Tryz.prog 32 #[va, vb] w fun e w' => e = .returned (.bool (Dt.same a b)) ∧ Below w.heap.size w w' := by
 obtain ⟨aa, ca, rfl, haa⟩ := ha.inv
 obtain ⟨ab, cb, rfl, hab⟩ := hb.inv
 have HIH := hid IH
 have HA := hid ha
 have HB := hid hb
 obtain ⟨r, hr⟩ : ∃ r, r = Dt.same a b := ⟨_, rfl⟩
 rw [← hr]
 clear IH ha hb
 obtain ⟨ak, ai, at3, al⟩ := a
 obtain ⟨bk, bi, bt, bl⟩ := b
 have hrr : r = (decide (ak = bk) && decide (ai = bi) && decide (at3 = bt) && Dt.sames al bl) := by rw [hr, Dt.same]
 have HR := hid hr
 clear hr
 simp only [Dt.kind_mk, Dt.int_mk, Dt.text_mk, Dt.list_mk] at *
 by_cases h1 : ak = bk
 ·subst h1
  by_cases h2 : ai = bi
  ·subst h2
   by_cases h3 : at3 = bt
   ·subst h3
    by_cases h4 : al.length = bl.length
    ·have hall := Dt.sames_iff al bl h4
     simp only [decide_true, Bool.true_and] at hrr
     rw [← hrr] at hall
     have HALL := hid hall
     have HAA := hid haa
     have HAB := hid hab
     obtain ⟨n, hn⟩ : ∃ n, n = al.length := ⟨_, rfl⟩
     have hn2 : bl.length = n := by omega
     rw [hn2, ← hn]
     have HN : Hid (al.length = n ∧ bl.length = n) := ⟨hn.symm, hn2⟩
     have HLM := hid (hn ▸ hla)
     clear hall hrr haa hab HR HA HB h4 hn hn2 hla hlb
     go_enter Tryz.func32, Tryz.ntmps32
     go_wp2_with fail
     obtain ⟨w2, hw2⟩ : ∃ w2, w2 = (w.alloc (.cells #[.int .i64 ak, .int .i64 ai, .string at3, .slice aa n ca] 25)).alloc (.cells #[.int .i64 ak, .int .i64 ai, .string at3, .slice ab n cb] 25) := ⟨_, rfl⟩
     have hw : Below w.heap.size w w2 := by rw [hw2]; exact ((Below.refl _ _).alloc (Nat.le_refl _) _).alloc (by simp) _
     have hws : w.heap.size + 2 ≤ w2.heap.size := by rw [hw2]; simp
     have e0 : w2.cell? ⟨w.heap.size, 3, none⟩ = some (.slice aa n ca) := by rw [hw2, World.cell?_alloc_past _ _ _ (by simp), World.cell?_alloc_at _ _ _ _ rfl]; rfl
     have e1 : w2.cell? ⟨w.heap.size + 1, 3, none⟩ = some (.slice ab n cb) := by rw [hw2, World.cell?_alloc_at _ _ _ _ (by simp)]; rfl
     have HW := hid hw
     have HWS := hid hws
     have HE : Hid (w2.cell? ⟨w.heap.size, 3, none⟩ = some (.slice aa n ca) ∧ w2.cell? ⟨w.heap.size + 1, 3, none⟩ = some (.slice ab n cb)) := ⟨e0, e1⟩
     rw [← hw2]
     clear hw hws e0 e1 hw2
     go_loopg [5] n (fun gk i wx => ∃ k : Nat, k ≤ n ∧ gk = n - k ∧ i = .int .i64 k ∧ Hid (Below w2.heap.size w2 wx) ∧ Hid (∀ (j : Nat) (x y : Dt), j < k → al[j]? = some x → bl[j]? = some y → Dt.same x y = true))
     case atStart => exact ⟨0, Nat.zero_le _, rfl, rfl, Below.refl _ _, fun j x y hj => by omega⟩
     case round =>
      obtain ⟨k, hk, rfl, rfl, HX, HS⟩ := hrel
      have f0 : wr.cell? ⟨w.heap.size, 3, none⟩ = some (.slice aa n ca) := (HX.out.cell (p := ⟨w.heap.size, 3, none⟩) (by have := HWS.out; show w.heap.size < _; omega)).trans HE.out.1
      have f1 : wr.cell? ⟨w.heap.size + 1, 3, none⟩ = some (.slice ab n cb) := (HX.out.cell (p := ⟨w.heap.size + 1, 3, none⟩) (by have := HWS.out; show w.heap.size + 1 < _; omega)).trans HE.out.2
      by_cases hlt : k < n
      ·obtain ⟨x, hx⟩ : ∃ x, al[k]? = some x := ⟨_, List.getElem?_eq_getElem (by rw [HN.out.1]; exact hlt)⟩
       obtain ⟨y, hy⟩ : ∃ y, bl[k]? = some y := ⟨_, List.getElem?_eq_getElem (by rw [HN.out.2]; exact hlt)⟩
       rcases HAA.out with ⟨_, _, e⟩ | ⟨b1, o1, rfl, hb1, _, hat1⟩
       ·rw [e] at hx; simp at hx
       rcases HAB.out with ⟨_, _, e⟩ | ⟨b2, o2, rfl, hb2, _, hat2⟩
       ·rw [e] at hy; simp at hy
       obtain ⟨lx, p0, p1, p2, p3, hdx⟩ := hat1 k x hx
       obtain ⟨ly, r0, r1, r2, r3, hdy⟩ := hat2 k y hy
       have HWX : Hid (Below w.heap.size w wr) := HW.out.trans (HX.out.mono HW.out.size)
       have HSS : Hid ((wr.cell? ⟨w.heap.size, 3, none⟩ = some (.slice (some ⟨b1, o1, none⟩) n ca) ∧ wr.cell? ⟨w.heap.size + 1, 3, none⟩ = some (.slice (some ⟨b2, o2, none⟩) n cb) ∧ wr.cell? ⟨b1, o1 + k * 4, none⟩ = some (.int .i64 x.kind) ∧ wr.cell? ⟨b1, o1 + k * 4 + 1, none⟩ = some (.int .i64 x.int) ∧ wr.cell? ⟨b1, o1 + k * 4 + 2, none⟩ = some (.string x.text) ∧ wr.cell? ⟨b1, o1 + k * 4 + 3, none⟩ = some lx ∧ wr.cell? ⟨b2, o2 + k * 4, none⟩ = some (.int .i64 y.kind) ∧ wr.cell? ⟨b2, o2 + k * 4 + 1, none⟩ = some (.int .i64 y.int) ∧ wr.cell? ⟨b2, o2 + k * 4 + 2, none⟩ = some (.string y.text) ∧ wr.cell? ⟨b2, o2 + k * 4 + 3, none⟩ = some ly)) := ⟨f0, f1, (HWX.out.cell (p := ⟨b1, o1 + k * 4, none⟩) hb1).trans p0, (HWX.out.cell (p := ⟨b1, o1 + k * 4 + 1, none⟩) hb1).trans p1, (HWX.out.cell (p := ⟨b1, o1 + k * 4 + 2, none⟩) hb1).trans p2, (HWX.out.cell (p := ⟨b1, o1 + k * 4 + 3, none⟩) hb1).trans p3, (HWX.out.cell (p := ⟨b2, o2 + k * 4, none⟩) hb2).trans r0, (HWX.out.cell (p := ⟨b2, o2 + k * 4 + 1, none⟩) hb2).trans r1, (HWX.out.cell (p := ⟨b2, o2 + k * 4 + 2, none⟩) hb2).trans r2, (HWX.out.cell (p := ⟨b2, o2 + k * 4 + 3, none⟩) hb2).trans r3⟩
       have hcall := HIH.out x (List.mem_of_getElem? hx) y (List.mem_of_getElem? hy) _ _ wr.drew ((hdx.bel HWX.out (Nat.le_refl _)).same (fun _ h _ => h) (Nat.le_refl _) fun _ _ _ => rfl) ((hdy.bel HWX.out (Nat.le_refl _)).same (fun _ h _ => h) (Nat.le_refl _) fun _ _ _ => rfl)
       have HXY : Hid (al[k]? = some x ∧ bl[k]? = some y) := ⟨hx, hy⟩
       have HB12 : Hid (b1 < wr.heap.size ∧ b2 < wr.heap.size ∧ w.heap.size + 1 < wr.heap.size) := ⟨Nat.lt_of_lt_of_le hb1 HWX.out.size, Nat.lt_of_lt_of_le hb2 HWX.out.size, by have := HWS.out; have := HX.out.size; omega⟩
       have hg1 : (0 : Int) ≤ k := by omega
       have hg2 : (k : Int) < n := by omega
       have hgw : IntKind.i64.wrap ((k : Int) + 1) = k + 1 := by
        rw [IntKind.wrap_i64]
        have := HLM.out
        omega
       clear hat1 hat2 p0 p1 p2 p3 r0 r1 r2 r3 hdx hdy hx hy hb1 hb2
       cases hq : Dt.same x y with
       | true =>
        rw [hq] at hcall
        have HC := hid hcall
        have HQ := hid hq
        clear hq hcall
        go_wp2_with fail
        go_region_held3 (fun w' => w'.cell? ⟨w.heap.size, 3, none⟩ = some (.slice (some ⟨b1, o1, none⟩) n ca) ∧ w'.cell? ⟨w.heap.size + 1, 3, none⟩ = some (.slice (some ⟨b2, o2, none⟩) n cb) ∧ w'.cell? ⟨b1, o1 + k * 4, none⟩ = some (.int .i64 x.kind) ∧ w'.cell? ⟨b1, o1 + k * 4 + 1, none⟩ = some (.int .i64 x.int) ∧ w'.cell? ⟨b1, o1 + k * 4 + 2, none⟩ = some (.string x.text) ∧ w'.cell? ⟨b1, o1 + k * 4 + 3, none⟩ = some lx ∧ w'.cell? ⟨b2, o2 + k * 4, none⟩ = some (.int .i64 y.kind) ∧ w'.cell? ⟨b2, o2 + k * 4 + 1, none⟩ = some (.int .i64 y.int) ∧ w'.cell? ⟨b2, o2 + k * 4 + 2, none⟩ = some (.string y.text) ∧ w'.cell? ⟨b2, o2 + k * 4 + 3, none⟩ = some ly)
         (first | exact HSS.out | exact HS2.out)
         (first | (go_at_call 32; (with_reducible refine HC.out.mono ?_); rintro e w5 ⟨rfl, hb5⟩; have HB5 := hid hb5; have HS2 : Hid ((w5.cell? ⟨w.heap.size, 3, none⟩ = some (.slice (some ⟨b1, o1, none⟩) n ca) ∧ w5.cell? ⟨w.heap.size + 1, 3, none⟩ = some (.slice (some ⟨b2, o2, none⟩) n cb) ∧ w5.cell? ⟨b1, o1 + k * 4, none⟩ = some (.int .i64 x.kind) ∧ w5.cell? ⟨b1, o1 + k * 4 + 1, none⟩ = some (.int .i64 x.int) ∧ w5.cell? ⟨b1, o1 + k * 4 + 2, none⟩ = some (.string x.text) ∧ w5.cell? ⟨b1, o1 + k * 4 + 3, none⟩ = some lx ∧ w5.cell? ⟨b2, o2 + k * 4, none⟩ = some (.int .i64 y.kind) ∧ w5.cell? ⟨b2, o2 + k * 4 + 1, none⟩ = some (.int .i64 y.int) ∧ w5.cell? ⟨b2, o2 + k * 4 + 2, none⟩ = some (.string y.text) ∧ w5.cell? ⟨b2, o2 + k * 4 + 3, none⟩ = some ly)) := ⟨(hb5.cell (p := ⟨w.heap.size, 3, none⟩) (Nat.lt_of_succ_lt HB12.out.2.2)).trans HSS.out.1, (hb5.cell (p := ⟨w.heap.size + 1, 3, none⟩) (HB12.out.2.2)).trans HSS.out.2.1, (hb5.cell (p := ⟨b1, o1 + k * 4, none⟩) (HB12.out.1)).trans HSS.out.2.2.1, (hb5.cell (p := ⟨b1, o1 + k * 4 + 1, none⟩) (HB12.out.1)).trans HSS.out.2.2.2.1, (hb5.cell (p := ⟨b1, o1 + k * 4 + 2, none⟩) (HB12.out.1)).trans HSS.out.2.2.2.2.1, (hb5.cell (p := ⟨b1, o1 + k * 4 + 3, none⟩) (HB12.out.1)).trans HSS.out.2.2.2.2.2.1, (hb5.cell (p := ⟨b2, o2 + k * 4, none⟩) (HB12.out.2.1)).trans HSS.out.2.2.2.2.2.2.1, (hb5.cell (p := ⟨b2, o2 + k * 4 + 1, none⟩) (HB12.out.2.1)).trans HSS.out.2.2.2.2.2.2.2.1, (hb5.cell (p := ⟨b2, o2 + k * 4 + 2, none⟩) (HB12.out.2.1)).trans HSS.out.2.2.2.2.2.2.2.2.1, (hb5.cell (p := ⟨b2, o2 + k * 4 + 3, none⟩) (HB12.out.2.1)).trans HSS.out.2.2.2.2.2.2.2.2.2⟩; clear hb5))
        go_wp2_with fail
        go_roundg (n - (k + 1))
        case measure => omega
        case rel => exact ⟨k + 1, by omega, rfl, by go_num, HX.out.trans (((Below.refl _ _).drew.trans HB5.out).mono HX.out.size), fun j x' y' hj h1 h2 => (Nat.lt_or_eq_of_le (Nat.le_of_lt_succ hj)).elim (fun h => HS.out j x' y' h h1 h2) (fun h => by subst h; rw [HXY.out.1] at h1; rw [HXY.out.2] at h2; cases h1; cases h2; exact HQ.out)⟩
       | false =>
        rw [hq] at hcall
        have HC := hid hcall
        have HQ := hid hq
        clear hq hcall
        go_wp2_with fail
        go_region_held3 (fun w' => w'.cell? ⟨w.heap.size, 3, none⟩ = some (.slice (some ⟨b1, o1, none⟩) n ca) ∧ w'.cell? ⟨w.heap.size + 1, 3, none⟩ = some (.slice (some ⟨b2, o2, none⟩) n cb) ∧ w'.cell? ⟨b1, o1 + k * 4, none⟩ = some (.int .i64 x.kind) ∧ w'.cell? ⟨b1, o1 + k * 4 + 1, none⟩ = some (.int .i64 x.int) ∧ w'.cell? ⟨b1, o1 + k * 4 + 2, none⟩ = some (.string x.text) ∧ w'.cell? ⟨b1, o1 + k * 4 + 3, none⟩ = some lx ∧ w'.cell? ⟨b2, o2 + k * 4, none⟩ = some (.int .i64 y.kind) ∧ w'.cell? ⟨b2, o2 + k * 4 + 1, none⟩ = some (.int .i64 y.int) ∧ w'.cell? ⟨b2, o2 + k * 4 + 2, none⟩ = some (.string y.text) ∧ w'.cell? ⟨b2, o2 + k * 4 + 3, none⟩ = some ly)
         (first | exact HSS.out | exact HS2.out)
         (first | (go_at_call 32; (with_reducible refine HC.out.mono ?_); rintro e w5 ⟨rfl, hb5⟩; have HB5 := hid hb5; have HS2 : Hid ((w5.cell? ⟨w.heap.size, 3, none⟩ = some (.slice (some ⟨b1, o1, none⟩) n ca) ∧ w5.cell? ⟨w.heap.size + 1, 3, none⟩ = some (.slice (some ⟨b2, o2, none⟩) n cb) ∧ w5.cell? ⟨b1, o1 + k * 4, none⟩ = some (.int .i64 x.kind) ∧ w5.cell? ⟨b1, o1 + k * 4 + 1, none⟩ = some (.int .i64 x.int) ∧ w5.cell? ⟨b1, o1 + k * 4 + 2, none⟩ = some (.string x.text) ∧ w5.cell? ⟨b1, o1 + k * 4 + 3, none⟩ = some lx ∧ w5.cell? ⟨b2, o2 + k * 4, none⟩ = some (.int .i64 y.kind) ∧ w5.cell? ⟨b2, o2 + k * 4 + 1, none⟩ = some (.int .i64 y.int) ∧ w5.cell? ⟨b2, o2 + k * 4 + 2, none⟩ = some (.string y.text) ∧ w5.cell? ⟨b2, o2 + k * 4 + 3, none⟩ = some ly)) := ⟨(hb5.cell (p := ⟨w.heap.size, 3, none⟩) (Nat.lt_of_succ_lt HB12.out.2.2)).trans HSS.out.1, (hb5.cell (p := ⟨w.heap.size + 1, 3, none⟩) (HB12.out.2.2)).trans HSS.out.2.1, (hb5.cell (p := ⟨b1, o1 + k * 4, none⟩) (HB12.out.1)).trans HSS.out.2.2.1, (hb5.cell (p := ⟨b1, o1 + k * 4 + 1, none⟩) (HB12.out.1)).trans HSS.out.2.2.2.1, (hb5.cell (p := ⟨b1, o1 + k * 4 + 2, none⟩) (HB12.out.1)).trans HSS.out.2.2.2.2.1, (hb5.cell (p := ⟨b1, o1 + k * 4 + 3, none⟩) (HB12.out.1)).trans HSS.out.2.2.2.2.2.1, (hb5.cell (p := ⟨b2, o2 + k * 4, none⟩) (HB12.out.2.1)).trans HSS.out.2.2.2.2.2.2.1, (hb5.cell (p := ⟨b2, o2 + k * 4 + 1, none⟩) (HB12.out.2.1)).trans HSS.out.2.2.2.2.2.2.2.1, (hb5.cell (p := ⟨b2, o2 + k * 4 + 2, none⟩) (HB12.out.2.1)).trans HSS.out.2.2.2.2.2.2.2.2.1, (hb5.cell (p := ⟨b2, o2 + k * 4 + 3, none⟩) (HB12.out.2.1)).trans HSS.out.2.2.2.2.2.2.2.2.2⟩; clear hb5))
        go_wp2_with fail
        go_ret
        have hr : r = false := by
         cases hrc : r
         ·rfl
         ·exact absurd ((HALL.out.1 hrc) k x y HXY.out.1 HXY.out.2) (by rw [HQ.out]; decide)
        exact ⟨by rw [hr]; first | rfl | simp, HWX.out.trans (((Below.refl _ _).drew.trans HB5.out).mono HWX.out.size)⟩
      ·obtain rfl : k = n := by omega
       go_wp2_with fail
       go_ret
       have hr : r = true := HALL.out.2 fun j x y h1 h2 => HS.out j x y (by rw [← HN.out.1]; exact (List.getElem?_eq_some_iff.1 h1).1) h1 h2
       exact ⟨by rw [hr]; first | rfl | simp, HW.out.trans (HX.out.mono HW.out.size)⟩
    ·have g4 : ¬ (al.length : Int) = bl.length := by omega
     have g5 := beq_eq_false_iff_ne.2 g4
     have g6 := beq_eq_false_iff_ne.2 h4
     have : r = false := by
      cases hrc : r
      ·rfl
      ·rw [hrc] at hrr
       simp only [decide_true, Bool.true_and] at hrr
       exact absurd (Dt.sames_len al bl hrr.symm) h4
     subst this
     clear HR hrr HIH HA HB haa hab
     go_enter Tryz.func32, Tryz.ntmps32
     go_wp2_with fail
     go_ret
     exact ⟨rfl, ((Below.refl _ _).alloc (Nat.le_refl _) _).alloc (by simp) _⟩
   ·have g5 := bytes_ne h3
    have : r = false := by rw [hrr]; simp [h3]
    subst this
    clear HR hrr HIH HA HB haa hab
    go_enter Tryz.func32, Tryz.ntmps32
    go_wp2_with fail
    go_ret
    exact ⟨rfl, ((Below.refl _ _).alloc (Nat.le_refl _) _).alloc (by simp) _⟩
  ·have g4 := beq_eq_false_iff_ne.2 h2
   have : r = false := by rw [hrr]; simp [h2]
   subst this
   clear HR hrr HIH HA HB haa hab
   go_enter Tryz.func32, Tryz.ntmps32
   go_wp2_with fail
   go_ret
   exact ⟨rfl, ((Below.refl _ _).alloc (Nat.le_refl _) _).alloc (by simp) _⟩
 ·have g4 := beq_eq_false_iff_ne.2 h1
  have : r = false := by rw [hrr]; simp [h1]
  subst this
  clear HR hrr HIH HA HB haa hab
  go_enter Tryz.func32, Tryz.ntmps32
  go_wp2_with fail
  go_ret
  exact ⟨rfl, ((Below.refl _ _).alloc (Nat.le_refl _) _).alloc (by simp) _⟩
inductive Dt.Short : Dt → Prop
 | mk (k i : Int) (t : ByteArray) (l : List Dt) (hl : l.length ≤ 1000000) (h : ∀ (j : Nat) (x : Dt), l[j]? = some x → Dt.Short x) : Dt.Short (.mk k i t l)
theorem Dt.Short.len {d : Dt} (h : Dt.Short d) : d.list.length ≤ 1000000 := by cases h; assumption
theorem Dt.Short.of {d x : Dt} (h : Dt.Short d) (hx : x ∈ d.list) : Dt.Short x := by
 cases h with
 | mk k i t l hl h =>
  obtain ⟨j, hj⟩ := List.mem_iff_getElem?.1 hx
  exact h j x hj
theorem same_n : ∀ (n : Nat) (a b : Dt) (va vb : Value) (w : World), a.depth ≤ n → Dt.Short a → b.list.length ≤ 1000000 → Dt.Short b → DtAt w (fun _ => True) va a → DtAt w (fun _ => True) vb b →
  Calls Tryz.prog 32 #[va, vb] w fun e w' => e = .returned (.bool (Dt.same a b)) ∧ Below w.heap.size w w'
 | 0, a, b, va, vb, w, hd, hsa, hlb, hsb, ha, hb => by
  rw [Dt.depth_list] at hd
  omega
 | n + 1, a, b, va, vb, w, hd, hsa, hlb, hsb, ha, hb => by
  refine same_step a b va vb w ha hb hsa.len hlb fun x hx y hy vx vy w1 h1 h2 => ?_
  rw [Dt.depth_list] at hd
  have := Dt.depth_mem _ x hx
  exact same_n n x y vx vy w1 (by omega) (hsa.of hx) (hsb.of hy).len (hsb.of hy) h1 h2
theorem same_any (a b : Dt) (va vb : Value) (w : World) (hsa : Dt.Short a) (hsb : Dt.Short b) (ha : DtAt w (fun _ => True) va a) (hb : DtAt w (fun _ => True) vb b) :
  Calls Tryz.prog 32 #[va, vb] w fun e w' => e = .returned (.bool (Dt.same a b)) ∧ Below w.heap.size w w' :=
 same_n a.depth a b va vb w (Nat.le_refl _) hsa hsb.len hsb ha hb
end Go.Proofs.YtkplkgdfphbldaaGreat
