/- The last step of a law's row: the call leaves all that was there as it was ('Below'). -/
import Derived.WalkKit
import Derived.ProofKit
import Derived.OpenShut
import Derived.Deep.Draws
import Derived.WideKeyArgs
import Derived.Carry
import Derived.Test.YtkplkgdfphbldaaGreatRows
namespace Go.Proofs.YtkplkgdfphbldaaGreat
open Go.RowKit
set_option linter.unusedVariables false
set_option linter.unusedSimpArgs false
set_option linter.unnecessarySimpa false
set_option maxRecDepth 100000
open Go.ChangeShapes Go.WideShapes Go.ChangeAt Go.RowKit
section
variable {H : Type} {enc : TypeId × Value → H} {P : Program}
theorem post_of_below {f : Func} {s : ChangeSpec} {apart fresh handsOn again : Bool} {W W' : World} {args : Array Value} {v : Value} {ds gs : List (DataW H)} {before pa pv : List MemPlace}
  (hW : DataW.Whole enc P f.params.toList s.vars apart W args.toList ds gs before)
  (hres : ∀ (b : Nat) (sp : Nat → Bool) (hd : Bool), DataW.TrodAll enc P W' b sp hd f.resultTypes.toList (v.resultList f.resultTypes.size) (s.fn H (ds ++ gs)).results [])
  (hargs : ∀ sp : Nat → Bool, (∀ p ∈ before, sp p.block = true) → DataW.TrodAll enc P W' 0 sp true f.params.toList args.toList (s.fn H (ds ++ gs)).args pa)
  (hvars : ∀ sp : Nat → Bool, (∀ p ∈ before, sp p.block = true) → DataW.TrodVars enc P W' sp s.vars (s.fn H (ds ++ gs)).vars pv)
  (hps : before = pa ++ pv) (hb : Below W.heap.size W W')
  (hok : ∀ (j : Nat) (t : TypeId) (r : Value), f.resultTypes[j]? = some t → (v.resultList f.resultTypes.size)[j]? = some r → Value.okWide P W' .any 0 t r) :
  s.post enc P f apart fresh handsOn again W args v W' := by
 have hlt : ∀ p ∈ before, p.block < W.heap.size := fun p hp => hW.lt p hp
 have hold : ∀ p ∈ before, (fun b => decide (b < W.heap.size)) p.block = true := fun p hp => by simpa using hlt p hp
 refine ⟨ds, gs, before, [], pa, pv, hW, hres _ _ _, hargs _ hold, hvars _ hold, World.keptBut_mono (fun p hp => ⟨hp, ?_⟩) (hb.frame (· ∈ before)), fun _ => ?_⟩
 ·rw [hps, List.mem_append] at hp
  exact Or.inr hp
 ·obtain ⟨_, _, _, _, _, hz, hn⟩ := hW
  refine ⟨hok, _, _, ([] ++ pa) ++ pv, ⟨[] ++ pa, pv, trodAll_append (hargs _ (fun _ _ => rfl)) (hres _ _ _), hvars _ (fun _ _ => rfl), rfl, ?_, ?_⟩, ?_⟩
  ·intro b off hp
   have hin : MemPlace.cell b off ∈ before := by rw [hps]; simpa using hp
   rw [hb.frozen (hlt _ hin)]
   exact hz b off hin
  ·intro ha
   have := hn ha
   rw [hps] at this
   simpa using this
  ·intro p hp _
   rw [hps]
   simpa using hp
end
theorem below_drewN {B : Nat} {a w : World} (h : Below B a w) (n : Nat) : Below B a (w.drewN n) := ⟨h.os, h.tape, h.output, h.size, h.block⟩
namespace Nm
def digitB (c : Int) : Bool := decide (48 ≤ c) && decide (c ≤ 57)
def signL : List Int := [33, 36, 37, 38, 42, 47, 58, 60, 61, 62, 63, 94, 95, 126, 43, 45, 46, 64]
def byteB (c : Int) : Bool := digitB c || (decide (97 ≤ c) && decide (c ≤ 122)) || (decide (65 ≤ c) && decide (c ≤ 90)) || signL.contains c
def bytesI (s : ByteArray) : List Int := s.data.toList.map fun (b : UInt8) => (b.toNat : Int)
def unsigned : List Int → List Int
 | c :: l => if c = 43 ∨ c = 45 then l else c :: l
 | [] => []
def numL (l : List Int) : Bool := (unsigned l).all digitB && !(unsigned l).isEmpty
def nameL (l : List Int) : Bool := l.all byteB && !l.isEmpty && decide (l.length ≤ 64) && !decide (l = [46]) && !numL l
def nameB (s : ByteArray) : Bool := nameL (bytesI s)
theorem bytesI_length (s : ByteArray) : (bytesI s).length = s.size := by simp [bytesI]
theorem bytesI_get (s : ByteArray) {k : Nat} (h : k < s.size) : (bytesI s)[k]? = some ((s[k].toNat : Nat) : Int) := by
 have h' : k < s.data.toList.length := by simpa using h
 rw [bytesI, List.getElem?_map, List.getElem?_eq_getElem h']
 rfl
theorem bytesI_inj {s t : ByteArray} (h : bytesI s = bytesI t) : s = t := by
 have hl : s.data.toList = t.data.toList := by
  have inj : ∀ (a b : List UInt8), a.map (fun (b : UInt8) => (b.toNat : Int)) = b.map (fun (b : UInt8) => (b.toNat : Int)) → a = b := by
   intro a
   induction a with
   | nil => intro b h; cases b with
    | nil => rfl
    | cons => simp at h
   | cons x a ih => intro b h; cases b with
    | nil => simp at h
    | cons y b =>
     simp only [List.map_cons, List.cons.injEq] at h
     have e : x = y := UInt8.toNat_inj.1 (by have := h.1; omega)
     rw [ih b h.2, e]
  exact inj _ _ h
 cases s; cases t
 congr
 exact Array.toList_inj.1 hl
end Nm
end Go.Proofs.YtkplkgdfphbldaaGreat
