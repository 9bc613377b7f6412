/- The walk of Order. -/
import Derived.Test.YtdehgidklcflbaaMovesSt
import Derived.Test.YtdehgidklcflbaaFrame
import Derived.Deep.QuietTactic
import Derived.BigQuiet
import Derived.StillTailTactics
import Derived.Deep.AppendLies
import Derived.Deep.RegionLaw
namespace Go.Proofs.Ytdehgidklcflbaa
open Go.RowKit
set_option linter.unusedVariables false

/-- A slice of moves in memory. -/
def MCells (w : World) (b off : Nat) (l : List (Int × Int)) : Prop :=
  ∀ j, j < l.length → w.cell? ⟨b, off + j * 2, none⟩ = some (.int .i64 (l.getD j (0, 0)).1) ∧ w.cell? ⟨b, off + j * 2 + 1, none⟩ = some (.int .i64 (l.getD j (0, 0)).2)

theorem MCells.below {w w' : World} {b off B : Nat} {l : List (Int × Int)} (h : MCells w b off l) (hb : Below B w w') (hlt : b < B) : MCells w' b off l :=
  fun j hj => ⟨(hb.cell (p := ⟨b, off + j * 2, none⟩) hlt).trans (h j hj).1, (hb.cell (p := ⟨b, off + j * 2 + 1, none⟩) hlt).trans (h j hj).2⟩

theorem take_snoc_of {l : List (Int × Int)} {k : Nat} {m : Int × Int} (h : k < l.length) (hm : l.getD k (0, 0) = m) : l.take (k + 1) = l.take k ++ [m] := by
  rw [List.take_succ_eq_append_getElem h]
  rw [List.getD_eq_getElem?_getD, List.getElem?_eq_getElem h] at hm
  simp at hm
  rw [hm]
theorem drop_of {l : List (Int × Int)} {k : Nat} {m : Int × Int} (h : k < l.length) (hm : l.getD k (0, 0) = m) : l.drop k = m :: l.drop (k + 1) := by
  rw [List.drop_eq_getElem_cons h]
  rw [List.getD_eq_getElem?_getD, List.getElem?_eq_getElem h] at hm
  simp at hm
  rw [hm]

def Ans (w w' : World) (l : List (Int × Int)) (spare : Int) (e : Ending) : Prop :=
  match Mv.order l spare with
  | none => e = .returned (.tuple #[.slice none 0 0, .int .i64 1]) ∧ Below w.heap.size w w'
  | some o => ∃ v, e = .returned (.tuple #[v, .int .i64 0]) ∧ w'.ownsRow (w.heap.size + 3) 30 2 v o.length (flat o) ∧ Below w.heap.size w w'

theorem OrdSt.made (w : World) : OrdSt (((w.alloc (.map #[] 0)).alloc (.map #[] 0)).alloc (.cells #[.map (some w.heap.size), .map (some (w.heap.size + 1)), .slice none 0 0] 39)) w.heap.size ⟨[], [], []⟩ := by
  refine ⟨.slice none 0 0, ?_, ?_, ?_, World.ownsRow_nil _ _ _ _⟩
  · have h := heap_alloc_new ((w.alloc (.map #[] 0)).alloc (.map #[] 0)) (.cells #[.map (some w.heap.size), .map (some (w.heap.size + 1)), .slice none 0 0] 39)
    have e : ((w.alloc (.map #[] 0)).alloc (.map #[] 0)).heap.size = w.heap.size + 2 := by simp
    rw [e] at h
    exact h
  · exact ((AMap.made w eI).alloc _).alloc _
  · have := (AMap.made (w.alloc (.map #[] 0)) eI).alloc (.cells #[.map (some w.heap.size), .map (some (w.heap.size + 1)), .slice none 0 0] 39)
    have e : (w.alloc (.map #[] 0)).heap.size = w.heap.size + 1 := by simp
    rw [e] at this
    exact this

set_option maxHeartbeats 4000000 in
set_option maxRecDepth 100000 in
theorem order_any (b off cap : Nat) (l : List (Int × Int)) (spare : Int) (w : World) (hb : b < w.heap.size) (hl : MCells w b off l) (hne : l ≠ []) (hlen : l.length ≤ 1000)
    (hcyc : ∀ F, Mv.fill spare l [] = some F → ∀ k, k < l.length → (Mv.look (Mv.turnAll spare (l.take k) (Mv.layAll l (Mv.want l ⟨F, [], []⟩))).F (l.getD k (0, 0)).1).isSome = true →
      Mv.Closes (Mv.turnAll spare (l.take k) (Mv.layAll l (Mv.want l ⟨F, [], []⟩))).F (l.getD k (0, 0)).1) :
    Calls Try.prog 7 #[.slice (some ⟨b, off, none⟩) l.length cap, .int .i64 spare] w fun e w' => Ans w w' l spare e := by
  have hmm : ∀ w, (Instr.makeMap 37 none).run Try.prog w = .ok (.map (some w.heap.size)) (w.alloc (.map #[] 0)) := fun w => run_makeMap _ w
  go_enter Try.func7, Try.ntmps7
  go_wp2_with fail
  have hst := OrdSt.made w
  have hb0 : Below w.heap.size w (((w.alloc (.map #[] 0)).alloc (.map #[] 0)).alloc (.cells #[.map (some w.heap.size), .map (some (w.heap.size + 1)), .slice none 0 0] 39)) :=
    (((Below.refl _ _).alloc (Nat.le_refl _) _).alloc (by simp) _).alloc (by simp; omega) _
  have hs0 : w.heap.size + 3 ≤ (((w.alloc (.map #[] 0)).alloc (.map #[] 0)).alloc (.cells #[.map (some w.heap.size), .map (some (w.heap.size + 1)), .slice none 0 0] 39)).heap.size := by simp
  simp only [Nat.add_assoc, Nat.reduceAdd]
  generalize (((w.alloc (.map #[] 0)).alloc (.map #[] 0)).alloc (.cells #[.map (some w.heap.size), .map (some (w.heap.size + 1)), .slice none 0 0] 39)) = w0 at hst hb0 hs0 ⊢
  have HL := Lib.hid hl
  have HCYC := Lib.hid hcyc
  clear hcyc
  have HST := Lib.hid hst
  clear hl hst
  go_loopg [29] l.length (fun g i wr => ∃ (k : Nat) (F : List (Int × Int)), k ≤ l.length ∧ g = l.length - k ∧ i = .int .i64 k ∧ Mv.fill spare l [] = Mv.fill spare (l.drop k) F ∧ OrdSt wr w.heap.size ⟨F, [], []⟩ ∧ Below w.heap.size w wr ∧ w.heap.size + 3 ≤ wr.heap.size ∧ F.length ≤ k)
  case atStart => exact ⟨0, [], Nat.zero_le _, by omega, rfl, rfl, HST.out, hb0, hs0, Nat.le_refl _⟩
  case round =>
    obtain ⟨k, F, hk, rfl, rfl, hfill, hO, hbel, hsz, hFl⟩ := hrel
    have HF := Lib.hid hfill
    have HO := Lib.hid hO
    clear hfill hO
    by_cases hlt : k < l.length
    · obtain ⟨t, f, hm⟩ : ∃ t f, Hid (l.getD k (0, 0) = (t, f)) := ⟨_, _, rfl⟩
      have hcells := (HL.out.below hbel hb) k hlt
      rw [hm.out] at hcells
      obtain ⟨m0, m1⟩ := hcells
      have hdrop : Hid (l.drop k = (t, f) :: l.drop (k + 1)) := by
        unfold Hid
        rw [List.drop_eq_getElem_cons hlt]
        have := hm.out
        rw [List.getD_eq_getElem?_getD, List.getElem?_eq_getElem hlt] at this
        simp at this
        rw [this]
      have hO1 := HO.out.alloc (.cells #[.int .i64 t, .int .i64 f] 30)
      have c0 := hO1.c0
      have lk := hO1.lookF t true
      simp only [if_true] at lk
      have HO1 := Lib.hid hO1
      clear hO1
      obtain ⟨x, hx⟩ : ∃ x, Hid (Mv.get F t = x) := ⟨_, rfl⟩
      rw [hx.out] at lk
      cases hlook : (Mv.look F t).isSome with
      | true =>
        have hor : Hid (Mv.order l spare = none) := by
          unfold Hid Mv.order
          rw [if_neg (by omega), HF.out, hdrop.out]
          simp [Mv.fill, hlook]
        rw [hlook] at lk
        go_wp2_with fail
        go_quiet (fail)
        go_wp2
        go_ret2
        unfold Ans
        rw [hor.out]
        exact ⟨rfl, below_drewN (hbel.alloc (by omega) _) _⟩
      | false =>
        rw [hlook] at lk
        by_cases h2 : t = spare
        · have hor : Hid (Mv.order l spare = none) := by
            unfold Hid Mv.order
            rw [if_neg (by omega), HF.out, hdrop.out]
            simp [Mv.fill, h2]
          have e1 : (t == spare) = true := by rw [beq_iff_eq]; exact h2
          clear h2
          go_wp2_with fail
          go_quiet (fail)
          go_wp2
          go_ret2
          unfold Ans
          rw [hor.out]
          exact ⟨rfl, below_drewN (hbel.alloc (by omega) _) _⟩
        · have e1 : (t == spare) = false := by rw [beq_eq_false_iff_ne]; exact h2
          by_cases h3 : f = spare
          · have hor : Hid (Mv.order l spare = none) := by
              unfold Hid Mv.order
              rw [if_neg (by omega), HF.out, hdrop.out]
              simp [Mv.fill, h3]
            have e2 : (f == spare) = true := by rw [beq_iff_eq]; exact h3
            clear h2 h3
            go_wp2_with fail
            go_quiet (fail)
            go_wp2
            go_ret2
            unfold Ans
            rw [hor.out]
            exact ⟨rfl, below_drewN (hbel.alloc (by omega) _) _⟩
          · have e2 : (f == spare) = false := by rw [beq_eq_false_iff_ne]; exact h3
            have hfill2 : Hid (Mv.fill spare l [] = Mv.fill spare (l.drop (k + 1)) (Mv.put F t f)) := by
              unfold Hid
              rw [HF.out, hdrop.out]
              simp [Mv.fill, hlook, h2, h3]
            clear h2 h3
            go_wp2_with fail
            go_quiet (fail)
            go_wp2
            refine wp_still_tail 8 (by kernel_rfl) (by kernel_rfl) ?_
            simp only [List.take_succ_cons, List.take_zero, List.drop_succ_cons, List.drop_zero]
            repeat still_step
            refine wpStill_nil ?_
            show wpList _ _ _ _ _ _
            go_wp2_with (first | (at_mapUpdate; refine wpList_update_amap rfl (.tmp 59) (.tmp 61) (.tmp 63) rfl (keyOk_int Try.underlying3) Try.underlying37 (AMap.kept HO1.out.mapF rfl) rfl t (.int .i64 f) rfl rfl ?_))
            intro w2 hF2 hg2
            have hw1 : w.heap.size + 3 ≤ (wr.alloc (.cells #[.int .i64 t, .int .i64 f] 30)).heap.size := by simp; omega
            have hg2 := grown_drewN hg2
            have hO2 : Hid (OrdSt w2 w.heap.size ⟨Mv.put F t f, [], []⟩) := HO1.out.turnF hg2 (by rw [← aput_encI]; exact hF2)
            have hb2 : Below w.heap.size w w2 := (hbel.alloc (by omega) (.cells #[.int .i64 t, .int .i64 f] 30)).grown hg2 (by simp; omega) (fun q hq => by injection hq with hq; omega)
            have hs2 : w.heap.size + 3 ≤ w2.heap.size := Nat.le_trans hw1 hg2.size
            have HB2 := Lib.hid hb2
            clear hF2 hg2 hb2 lk c0 hbel hw1
            go_wp2
            go_roundg (l.length - (k + 1))
            case measure => omega
            case rel => exact ⟨k + 1, Mv.put F t f, by omega, rfl, by go_num, hfill2.out, hO2.out, HB2.out, hs2, by have := (Mv.put_length F t f).1; omega⟩
    · obtain rfl : k = l.length := by omega
      have hF : Hid (Mv.fill spare l [] = some F) := by unfold Hid; rw [HF.out, List.drop_length]; rfl
      obtain ⟨S2, hS2⟩ : ∃ S2, Hid (Mv.want l ⟨F, [], []⟩ = S2) := ⟨_, rfl⟩
      clear hk hlt
      go_wp2_with fail
      go_loopg [67] l.length (fun g i wx => ∃ (k : Nat) (s : Mv.St), k ≤ l.length ∧ g = l.length - k ∧ i = .int .i64 k ∧ Mv.want (l.drop k) s = S2 ∧ OrdSt wx w.heap.size s ∧ Below w.heap.size w wx ∧ w.heap.size + 3 ≤ wx.heap.size ∧ s.F.length ≤ 1000 ∧ s.out = [] ∧ Mv.Wok s.W 0 k)
      case atStart => exact ⟨0, ⟨F, [], []⟩, Nat.zero_le _, by omega, rfl, hS2.out, HO.out, hbel, hsz, by show F.length ≤ 1000; omega, rfl, fun x => by simp [Mv.get, Mv.look]⟩
      case round =>
        clear hbel hsz HO HF
        obtain ⟨k, s, hk, rfl, rfl, hwant, hO, hbel, hsz, hsl, hso, hwok⟩ := hrel
        have HWA := Lib.hid hwant
        have HO := Lib.hid hO
        have HSO := Lib.hid hso
        have HWK := Lib.hid hwok
        clear hwant hO hso hwok
        by_cases hlt : k < l.length
        · skip
          obtain ⟨t, f, hm⟩ : ∃ t f, Hid (l.getD k (0, 0) = (t, f)) := ⟨_, _, rfl⟩
          have hcells := (HL.out.below hbel hb) k hlt
          rw [hm.out] at hcells
          obtain ⟨m0, m1⟩ := hcells
          have hdrop : Hid (l.drop k = (t, f) :: l.drop (k + 1)) := drop_of hlt hm.out
          have hO1 := HO.out.alloc (.cells #[.int .i64 t, .int .i64 f] 30)
          have c0 := hO1.c0
          have c1 := hO1.c1
          have hb1 := hbel.alloc (by omega) (.cells #[.int .i64 t, .int .i64 f] 30)
          have hs1 : w.heap.size + 3 ≤ (wr.alloc (.cells #[.int .i64 t, .int .i64 f] 30)).heap.size := by simp; omega
          by_cases he : t = f
          · skip
            have e1 : (t == f) = true := by rw [beq_iff_eq]; exact he
            have hnext : Hid (Mv.want (l.drop (k + 1)) ⟨Mv.del s.F t, s.W, s.out⟩ = S2) := by
              unfold Hid
              rw [← HWA.out, hdrop.out]
              show _ = Mv.want _ (Mv.want1 s (t, f))
              unfold Mv.want1
              rw [if_pos he]
            have HO1 := Lib.hid hO1
            clear he hO1
            go_wp2_with fail

            refine wp_still_tail 6 (by kernel_rfl) (by kernel_rfl) ?_
            simp only [List.take_succ_cons, List.take_zero, List.drop_succ_cons, List.drop_zero]
            repeat still_step
            refine wpStill_nil ?_
            show wpList _ _ _ _ _ _

            go_wp2_with (first | (at_delete; refine wpList_delete_amap rfl (.tmp 79) (.tmp 81) 3 rfl (keyOk_int Try.underlying3) Try.underlying37 (AMap.kept HO1.out.mapF rfl) rfl t rfl ?_))
            intro w2 hF2 hg2
            have hg2 : (wr.alloc (.cells #[.int .i64 t, .int .i64 f] 30)).grownBy w2 (some w.heap.size) := ⟨hg2.os, hg2.tape, hg2.output, hg2.size, hg2.block⟩
            have hO2 : Hid (OrdSt w2 w.heap.size ⟨Mv.del s.F t, s.W, s.out⟩) := HO1.out.turnF hg2 (by rw [← adel_encI]; exact hF2)
            have hb2 := Lib.hid (hb1.grown hg2 (by simp; omega) (fun q hq => by injection hq with hq; omega))
            have hs2 : w.heap.size + 3 ≤ w2.heap.size := Nat.le_trans hs1 hg2.size
            clear hF2 hg2 c0 c1 hbel hb1 hs1
            go_wp2
            go_roundg (l.length - (k + 1))
            case measure => omega
            case rel => exact ⟨k + 1, _, by omega, rfl, by go_num, hnext.out, hO2.out, hb2.out, hs2, Nat.le_trans (Mv.del_length_le _ _) hsl, HSO.out, fun x => by have := HWK.out x; exact ⟨this.1, by have h2 := this.2; show Mv.get s.W x ≤ _; omega⟩⟩
          · skip
            have e1 : (t == f) = false := by rw [beq_eq_false_iff_ne]; exact he
            obtain ⟨y, hy⟩ : ∃ y, Hid (Mv.get s.W f = y) := ⟨_, rfl⟩
            have hnext : Hid (Mv.want (l.drop (k + 1)) ⟨s.F, Mv.put s.W f (y + 1), s.out⟩ = S2) := by
              unfold Hid
              rw [← HWA.out, hdrop.out, ← hy.out]
              show _ = Mv.want _ (Mv.want1 s (t, f))
              unfold Mv.want1
              rw [if_neg he]
            have lw := hO1.lookW f false
            simp only [Bool.false_eq_true, if_false, hy.out] at lw
            have lwd := lw 1
            rw [← World.drew_is_drewN] at lwd
            have hyb := HWK.out f
            rw [hy.out] at hyb
            obtain ⟨hy1, hy2⟩ := hyb
            have hwr : IntKind.i64.wrap (y + 1) = y + 1 := IntWalk.i64_in _ (by omega)
            have HO1 := Lib.hid hO1
            clear he hO1
            go_wp2_with fail

            refine wp_still_tail 8 (by kernel_rfl) (by kernel_rfl) ?_
            simp only [List.take_succ_cons, List.take_zero, List.drop_succ_cons, List.drop_zero]
            repeat still_step
            refine wpStill_nil ?_
            show wpList _ _ _ _ _ _

            go_wp2_with (first | (at_mapUpdate; refine wpList_update_amap rfl (.tmp 85) (.tmp 87) (.tmp 89) rfl (keyOk_int Try.underlying3) Try.underlying37 (AMap.kept HO1.out.mapW rfl) rfl f (.int .i64 (y + 1)) rfl rfl ?_))
            intro w2 hW2 hg2
            have hg2 : (wr.alloc (.cells #[.int .i64 t, .int .i64 f] 30)).grownBy w2 (some (w.heap.size + 1)) := ⟨hg2.os, hg2.tape, hg2.output, hg2.size, hg2.block⟩
            have hO2 : Hid (OrdSt w2 w.heap.size ⟨s.F, Mv.put s.W f (y + 1), s.out⟩) := HO1.out.turnW hg2 (by rw [← aput_encI]; exact hW2)
            have hb2 := Lib.hid (hb1.grown hg2 (by simp; omega) (fun q hq => by injection hq with hq; omega))
            have hs2 : w.heap.size + 3 ≤ w2.heap.size := Nat.le_trans hs1 hg2.size
            clear hW2 hg2 c0 c1 hbel hb1 hs1 lw lwd hwr
            go_wp2
            go_roundg (l.length - (k + 1))
            case measure => omega
            case rel => exact ⟨k + 1, _, by omega, rfl, by go_num, hnext.out, hO2.out, hb2.out, hs2, hsl, HSO.out, Mv.Wok.put HWK.out _ _ (by omega) (by omega) (by omega) (by omega)⟩
        · skip
          obtain rfl : k = l.length := by omega
          have hS : s = S2 := by have := HWA.out; rw [List.drop_length] at this; exact this
          subst hS
          obtain ⟨S3, hS3⟩ : ∃ S3, Hid (Mv.layAll l s = S3) := ⟨_, rfl⟩
          have HS2 := Lib.hid hS2
          clear hk hlt HWA
          go_wp2_with fail
          go_loopg [93] l.length (fun g i wx => ∃ (k : Nat) (s : Mv.St), k ≤ l.length ∧ g = l.length - k ∧ i = .int .i64 k ∧ Mv.layAll (l.drop k) s = S3 ∧ OrdSt wx w.heap.size s ∧ Below w.heap.size w wx ∧ w.heap.size + 3 ≤ wx.heap.size ∧ s.out.length + s.F.length ≤ 1000 ∧ Mv.Wok s.W (-1000 + s.F.length) 2000)
          case atStart => exact ⟨0, s, Nat.zero_le _, by omega, rfl, hS3.out, HO.out, hbel, hsz, by rw [HSO.out]; simp; omega, fun x => by have := HWK.out x; omega⟩
          case round =>
            clear hbel hsz HO HSO HWK
            obtain ⟨k, s3, hk, rfl, rfl, hlay, hO, hbel, hsz, hsl3, hwok⟩ := hrel
            have HLA := Lib.hid hlay
            have HO := Lib.hid hO
            have HWK := Lib.hid hwok
            clear hlay hO hwok
            by_cases hlt : k < l.length
            · skip
              obtain ⟨t, f, hm⟩ : ∃ t f, Hid (l.getD k (0, 0) = (t, f)) := ⟨_, _, rfl⟩
              have hcells := (HL.out.below hbel hb) k hlt
              rw [hm.out] at hcells
              obtain ⟨m0, m1⟩ := hcells
              have hdrop : Hid (l.drop k = (t, f) :: l.drop (k + 1)) := drop_of hlt hm.out
              have hO1 := HO.out.alloc (.cells #[.int .i64 t, .int .i64 f] 30)
              have c0 := hO1.c0
              have c1 := hO1.c1
              have hb1 := hbel.alloc (by omega) (.cells #[.int .i64 t, .int .i64 f] 30)
              have hs1 : w.heap.size + 3 ≤ (wr.alloc (.cells #[.int .i64 t, .int .i64 f] 30)).heap.size := by simp; omega
              have hnext : Hid (Mv.layAll (l.drop (k + 1)) (Mv.move (s3.F.length + 1) t s3) = S3) := by
                unfold Hid
                rw [← HLA.out, hdrop.out]
                rfl
              have hml := Mv.move_len (s3.F.length + 1) t s3
              have hmw := Lib.hid (Mv.move_wok (-1000) (s3.F.length + 1) t s3 HWK.out)
              have HO1 := Lib.hid hO1
              have HML := Lib.hid hml
              clear hO1 hml
              go_wp2_with (first | (go_at_call 14; refine (move_any _ _ s3 _ _ HO1.out hs1 HWK.out (by omega) (by omega)).mono ?_; rintro e w2 ⟨rfl, hO2, hb2⟩))
              have hb3 := Lib.hid (hb1.trans hb2)
              have hs3 : w.heap.size + 3 ≤ w2.heap.size := Nat.le_trans hs1 (by have := hb2.size; omega)
              have HO2 := Lib.hid hO2
              clear hO2 hb2 hb1 hbel c0 c1 hs1
              go_wp2
              go_roundg (l.length - (k + 1))
              case measure => omega
              case rel => exact ⟨k + 1, _, by omega, rfl, by go_num, hnext.out, HO2.out, hb3.out, hs3, by have := HML.out; omega, hmw.out⟩
            · skip
              obtain rfl : k = l.length := by omega
              have hS : s3 = S3 := by have := HLA.out; rw [List.drop_length] at this; exact this
              subst hS
              clear hk hlt HLA
              have hcy : Hid (∀ k, k < l.length → (Mv.look (Mv.turnAll spare (l.take k) s3).F (l.getD k (0, 0)).1).isSome = true → Mv.Closes (Mv.turnAll spare (l.take k) s3).F (l.getD k (0, 0)).1) := by
                have := HCYC.out F hF.out
                rw [HS2.out, hS3.out] at this
                exact this
              have hfin : Hid (Mv.order l spare = some (Mv.turnAll spare l s3).out) := by
                unfold Hid Mv.order
                rw [if_neg (by omega), hF.out]
                simp only
                rw [HS2.out, hS3.out]
              clear HCYC
              go_wp2_with fail
              go_loopg [104] l.length (fun g i wx => ∃ (k : Nat) (s : Mv.St), k ≤ l.length ∧ g = l.length - k ∧ i = .int .i64 k ∧ Mv.turnAll spare (l.take k) s3 = s ∧ OrdSt wx w.heap.size s ∧ Below w.heap.size w wx ∧ w.heap.size + 3 ≤ wx.heap.size ∧ s.out.length + s.F.length ≤ 1000 + 2 * k ∧ Mv.Wok s.W (-1000 - 2 * k + s.F.length) 2000)
              case atStart => exact ⟨0, s3, Nat.zero_le _, by omega, rfl, rfl, HO.out, hbel, hsz, by omega, fun x => by have := HWK.out x; omega⟩
              case round =>
                clear hbel hsz HO HWK
                obtain ⟨k, s, hk, rfl, rfl, hturn, hO, hbel, hsz, hsl4, hwok⟩ := hrel
                have HTU := Lib.hid hturn
                have HO := Lib.hid hO
                have HWK := Lib.hid hwok
                clear hturn hO hwok
                by_cases hlt : k < l.length
                · skip
                  obtain ⟨t, f, hm⟩ : ∃ t f, Hid (l.getD k (0, 0) = (t, f)) := ⟨_, _, rfl⟩
                  have hcells := (HL.out.below hbel hb) k hlt
                  rw [hm.out] at hcells
                  obtain ⟨m0, m1⟩ := hcells
                  have hdrop : Hid (l.drop k = (t, f) :: l.drop (k + 1)) := drop_of hlt hm.out
                  have hO1 := HO.out.alloc (.cells #[.int .i64 t, .int .i64 f] 30)
                  have c0 := hO1.c0
                  have c1 := hO1.c1
                  have hb1 := hbel.alloc (by omega) (.cells #[.int .i64 t, .int .i64 f] 30)
                  have hs1 : w.heap.size + 3 ≤ (wr.alloc (.cells #[.int .i64 t, .int .i64 f] 30)).heap.size := by simp; omega
                  have hstep : Hid (Mv.turnAll spare (l.take (k + 1)) s3 = Mv.turn1 spare s (t, f)) := by
                    unfold Hid
                    rw [← HTU.out]
                    unfold Mv.turnAll
                    rw [take_snoc_of hlt hm.out, List.foldl_append]
                    rfl
                  have hcy2 := hcy.out k hlt
                  rw [HTU.out, hm.out] at hcy2
                  have HCY2 := Lib.hid hcy2
                  have lk := hO1.lookF t true
                  simp only [if_true] at lk
                  obtain ⟨x, hx⟩ : ∃ x, Hid (Mv.get s.F t = x) := ⟨_, rfl⟩
                  rw [hx.out] at lk
                  have HO1 := Lib.hid hO1
                  clear hO1 hcy2
                  cases hlook : (Mv.look s.F t).isSome with
                  | false =>
                    have hnext : Hid (Mv.turnAll spare (l.take (k + 1)) s3 = s) := by unfold Hid; rw [hstep.out]; unfold Mv.turn1; rw [if_neg (by rw [hlook]; decide)]
                    rw [hlook] at lk
                    have HB1 := Lib.hid hb1
                    clear hb1 hbel
                    go_wp2_with fail
                    go_quiet (fail)
                    go_wp2
                    go_roundg (l.length - (k + 1))
                    case measure => omega
                    case rel => exact ⟨k + 1, s, by omega, rfl, by go_num, hnext.out, HO1.out.drewN _, below_drewN HB1.out _, hs1, by omega, fun x => by have := HWK.out x; omega⟩
                  | true =>
                    rw [hlook] at lk
                    obtain ⟨n, hn, hcl⟩ := HCY2.out hlook
                    have hnext : Hid (Mv.turnAll spare (l.take (k + 1)) s3 = Mv.lay1 (Mv.open1 spare s t) (t, f)) := by unfold Hid; rw [hstep.out]; unfold Mv.turn1; rw [if_pos hlook]
                    obtain ⟨v, hC0, hMF0, hMW0, hown0⟩ := HO.out
                    have hC := hC0.alloc (.cells #[.int .i64 t, .int .i64 f] 30)
                    have hMF := AMap.alloc hMF0 (.cells #[.int .i64 t, .int .i64 f] 30)
                    have hMW := AMap.alloc hMW0 (.cells #[.int .i64 t, .int .i64 f] 30)
                    have hown := hown0.alloc (.cells #[.int .i64 t, .int .i64 f] 30)
                    have HVL := Lib.hid hown0.lt
                    clear hC0 hMF0 hMW0 hown0
                    have c2 := hC.c2
                    have fz := hC.fz 2
                    have HC := Lib.hid hC
                    have HMF := Lib.hid hMF
                    have HMW := Lib.hid hMW
                    have HOWN := Lib.hid hown
                    have HB1 := Lib.hid hb1
                    have HCL := Lib.hid hcl
                    clear hC hMF hMW hown hb1 hbel HCY2 hlook hcl
                    go_wp2_with fail
                    go_quiet (fail)
                    go_wp2_with fail
                    obtain ⟨i0, hi, hz0, hz1, hz2⟩ := info_parts infoM
                    have HI := Lib.hid hi
                    have HZ0 := Lib.hid hz0
                    have HZ1 := Lib.hid hz1
                    have HZ2 := Lib.hid hz2
                    clear hi hz0 hz1 hz2
                    have c2n : ∀ n, (((wr.alloc (.cells #[.int .i64 t, .int .i64 f] 30)).drewN n).alloc (.cells #[.int .i64 spare, .int .i64 t] 30)).cell? ⟨w.heap.size + 2, 2, none⟩ = some v := fun n => (OCells.alloc (w := (wr.alloc (.cells #[.int .i64 t, .int .i64 f] 30)).drewN n) HC.out _).c2
                    go_region_law ((refine step_append_lies _ rfl (.tmp 123) (.tmp 128) 22 rfl (w.heap.size + 3) 30 i0 (.agg #[.int .i64 0, .int .i64 0]) 2 16 Try.underlying22 HI.out HZ0.out HZ1.out HZ2.out rfl (by decide) v s.out.length (flat s.out) (by simp [Act.eval, Act.put]) (World.ownsRow.alloc HOWN.out _) ⟨wr.heap.size + 1, 0, none⟩ 1 1 [.int .i64 spare, .int .i64 t] (by simp [Act.eval, Act.put]) rfl (new_cells _ (heap_new (by simp))) (by simp [Value.oneCell']) (by decide) (by simp only [maxLen]; omega) (by omega) (by simp; omega) _ rfl ?_; intro g' cap' w1 hown1 hgr0 hq1 hq2; have hgr1 : ((wr.alloc (.cells #[.int .i64 t, .int .i64 f] 30)).alloc (.cells #[.int .i64 spare, .int .i64 t] 30)).grownBy w1 v.ownBlock := ⟨hgr0.os, hgr0.tape, hgr0.output, hgr0.size, hgr0.block⟩; have hne := own_ne HOWN.out; have c2' := (OCells.kept (HC.out.alloc (.cells #[.int .i64 spare, .int .i64 t] 30)) hgr1 (hne _ (by omega))).c2; have fz' := (OCells.kept (HC.out.alloc (.cells #[.int .i64 spare, .int .i64 t] 30)) hgr1 (hne _ (by omega))).fz 2))
                    all_goals
                      have hO3 := OrdSt.push HC.out HMF.out HMW.out HOWN.out hgr1 hown1
                      have hbx : (w1.setCell ⟨w.heap.size + 2, 2, none⟩ (.slice (some ⟨g', 0, none⟩) (s.out.length + 1) cap')).cell? ⟨wr.heap.size, 0, none⟩ = some (.int .i64 t) := by
                        rw [World.cell?_setCell_other _ _ _ _ (by intro e; injection e with e; omega)]
                        exact hgr1.cell (by simp) (by intro e; exact absurd (HVL.out _ e.symm).2 (Nat.lt_irrefl _))
                      have hb3 : Below w.heap.size w (w1.setCell ⟨w.heap.size + 2, 2, none⟩ (.slice (some ⟨g', 0, none⟩) (s.out.length + 1) cap')) :=
                        ((HB1.out.alloc (by simp; omega) (.cells #[.int .i64 spare, .int .i64 t] 30)).grown hgr1 (by simp; omega) (fun q hq => by have := (HOWN.out.lt q hq).1; omega)).setCell (by simp) _
                      have hs3 : w.heap.size + 3 ≤ (w1.setCell ⟨w.heap.size + 2, 2, none⟩ (.slice (some ⟨g', 0, none⟩) (s.out.length + 1) cap')).heap.size := by
                        have := hgr1.size; simp at this; simp [World.setCell]; omega
                      have hbs : wr.heap.size < (w1.setCell ⟨w.heap.size + 2, 2, none⟩ (.slice (some ⟨g', 0, none⟩) (s.out.length + 1) cap')).heap.size := by
                        have := hgr1.size; simp at this; simp [World.setCell]; omega
                      clear c2n c2' fz' hgr1 hgr0 hown1 hq1 hq2 hne c2 fz c0 c1 lk
                      generalize (w1.setCell ⟨w.heap.size + 2, 2, none⟩ (.slice (some ⟨g', 0, none⟩) (s.out.length + 1) cap')) = W2 at *
                      have c0 := hO3.c0
                      have HO3 := Lib.hid hO3
                      have HB3 := Lib.hid hb3
                      clear hO3 hb3
                      obtain ⟨LA, hLA⟩ : ∃ LA, Hid (Mv.lastOf s.F t s.F.length t = LA) := ⟨_, rfl⟩
                      have lk := HO3.out.lookF
                      have LK := Lib.hid lk
                      clear lk
                      go_wp2_with fail
                      go_loopg [19] n (fun g q wx => ∃ (q' : Int) (fuel nd : Nat), q = .int .i64 q' ∧ g < fuel ∧ Mv.get s.F (Mv.iter s.F g q') = t ∧ Mv.lastOf s.F t fuel q' = LA ∧ wx = W2.drewN nd)
                      case atStart => exact ⟨t, s.F.length, 0, rfl, hn, HCL.out, hLA.out, rfl⟩
                      case round =>
                        obtain ⟨q', fuel, nd, rfl, hgf, hit, hla, rfl⟩ := hrel
                        have HIT := Lib.hid hit
                        have HLAQ := Lib.hid hla
                        clear hit hla
                        obtain ⟨y, hy⟩ : ∃ y, Hid (Mv.get s.F q' = y) := ⟨_, rfl⟩
                        have lk := LK.out q' false
                        simp only [Bool.false_eq_true, if_false, hy.out] at lk
                        by_cases he : y = t
                        · have e1 : (y != t) = false := by rw [bne_eq_false_iff_eq]; exact he
                          have hq : Hid (LA = q') := by
                            unfold Hid
                            rw [← HLAQ.out]
                            cases fuel with
                            | zero => omega
                            | succ m => unfold Mv.lastOf; rw [if_pos (by rw [hy.out]; exact he)]
                          clear he
                          go_wp2_with fail
                          go_quiet (fail)
                          go_wp2_with (first | (at_mapUpdate; refine wpList_update_amap rfl (.tmp 152) (.tmp 153) (.tmp 154) rfl (keyOk_int Try.underlying3) Try.underlying37 (AMap.kept HO3.out.mapF rfl) rfl q' (.int .i64 spare) rfl rfl ?_))
                          intro w4 hF4 hg4
                          have hg4 := grown_drewN hg4
                          have hO4 : OrdSt w4 w.heap.size ⟨Mv.put s.F q' spare, s.W, s.out ++ [(spare, t)]⟩ := HO3.out.turnF hg4 (by rw [← aput_encI]; exact hF4)
                          have hbx4 : w4.cell? ⟨wr.heap.size, 0, none⟩ = some (.int .i64 t) := hg4.cell hbx (some_ne (by simp; omega))
                          have hb4 : Below w.heap.size w w4 := HB3.out.grown hg4 (by omega) (fun q hq => by injection hq with hq; omega)
                          have hs4 : w.heap.size + 3 ≤ w4.heap.size := Nat.le_trans hs3 hg4.size
                          clear hF4 hg4 hbx hs3 hbs lk c0
                          obtain ⟨z, hz⟩ : ∃ z, Hid (Mv.get s.W t = z) := ⟨_, rfl⟩
                          have lw := hO4.lookW t false
                          simp only [Bool.false_eq_true, if_false, hz.out] at lw
                          have lwd := lw 1
                          rw [← World.drew_is_drewN] at lwd
                          have c1 := hO4.c1
                          have hzb := HWK.out t
                          rw [hz.out] at hzb
                          obtain ⟨hz1, hz2⟩ := hzb
                          have hwr : IntKind.i64.wrap (z - 1) = z - 1 := IntWalk.i64_in _ (by omega)
                          have HO4 := Lib.hid hO4
                          have HBX4 := Lib.hid hbx4
                          have HB4 := Lib.hid hb4
                          clear hO4 hb4
                          go_wp2_with fail
                          refine wp_still_tail 8 (by kernel_rfl) (by kernel_rfl) ?_
                          simp only [List.take_succ_cons, List.take_zero, List.drop_succ_cons, List.drop_zero]
                          repeat still_step
                          refine wpStill_nil ?_
                          show wpList _ _ _ _ _ _
                          go_wp2_with (first | (at_mapUpdate; refine wpList_update_amap rfl (.tmp 158) (.tmp 160) (.tmp 162) rfl (keyOk_int Try.underlying3) Try.underlying37 (AMap.kept HO4.out.mapW rfl) rfl t (.int .i64 (z - 1)) rfl rfl ?_))
                          intro w5 hW5 hg5
                          have hg5 : w4.grownBy w5 (some (w.heap.size + 1)) := ⟨hg5.os, hg5.tape, hg5.output, hg5.size, hg5.block⟩
                          have hO5 : OrdSt w5 w.heap.size (Mv.open1 spare s t) := by
                            have := HO4.out.turnW hg5 (by rw [← aput_encI]; exact hW5)
                            unfold Mv.open1
                            rw [hLA.out, hq.out, hz.out]
                            exact this
                          have hbx5 : w5.cell? ⟨wr.heap.size, 0, none⟩ = some (.int .i64 t) := hg5.cell hbx4 (some_ne (by simp; omega))
                          have hb5 : Below w.heap.size w w5 := HB4.out.grown hg5 (by omega) (fun q hq => by injection hq with hq; omega)
                          have hs5 : w.heap.size + 3 ≤ w5.heap.size := Nat.le_trans hs4 hg5.size
                          have hpl := Mv.put_length s.F q' spare
                          have hwk5 : Hid (Mv.Wok (Mv.open1 spare s t).W (-1000 - 2 * ((k : Int) + 1) + (Mv.open1 spare s t).F.length) 2000) := by
                            unfold Hid Mv.open1
                            simp only
                            rw [hLA.out, hq.out, hz.out]
                            exact Mv.Wok.put HWK.out _ _ (by omega) (by omega) (by omega) (by omega)
                          have hlen5 : (Mv.open1 spare s t).out.length + (Mv.open1 spare s t).F.length ≤ 1000 + 2 * (k + 1) := by
                            unfold Mv.open1
                            simp only
                            rw [hLA.out, hq.out, List.length_append]
                            simp
                            omega
                          have hmw := Lib.hid (Mv.move_wok (-1000 - 2 * ((k : Int) + 1)) ((Mv.open1 spare s t).F.length + 1) t _ hwk5.out)
                          have HML := Lib.hid (Mv.move_len ((Mv.open1 spare s t).F.length + 1) t (Mv.open1 spare s t))
                          have HO5 := Lib.hid hO5
                          have HB5 := Lib.hid hb5
                          clear hO5 hb5 hW5 hg5 hbx4 lw lwd c1 hwr
                          go_wp2_with (first | (go_at_call 14; refine (move_any _ _ (Mv.open1 spare s t) _ _ HO5.out hs5 hwk5.out (by omega) (by omega)).mono ?_; rintro e w6 ⟨rfl, hO6, hb6⟩))
                          have hb7 := Lib.hid (HB5.out.trans hb6)
                          have hs6 : w.heap.size + 3 ≤ w6.heap.size := Nat.le_trans hs5 hb6.size
                          have HO6 := Lib.hid hO6
                          have hnext2 : Hid (Mv.turnAll spare (l.take (k + 1)) s3 = Mv.move ((Mv.open1 spare s t).F.length + 1) t (Mv.open1 spare s t)) := hnext.out
                          clear hO6 hb6 hbx5
                          go_wp2
                          go_roundg (l.length - (k + 1))
                          case measure => omega
                          case rel => exact ⟨k + 1, _, by omega, rfl, by go_num, hnext2.out, HO6.out, hb7.out, hs6, by have := HML.out; omega, by have := hmw.out; simpa using this⟩
                        · have e1 : (y != t) = true := by rw [bne_iff_ne]; exact he
                          obtain ⟨g2, hg2⟩ : ∃ g2, Hid (gk = g2 + 1) := by
                            cases gk with
                            | zero => exact absurd (by have := HIT.out; rw [← hy.out]; exact this) he
                            | succ m => exact ⟨m, rfl⟩
                          have hit2 : Hid (Mv.get s.F (Mv.iter s.F g2 y) = t) := by
                            unfold Hid
                            have := HIT.out
                            rw [hg2.out] at this
                            rw [← hy.out]
                            exact this
                          have hla2 : Hid (Mv.lastOf s.F t (fuel - 1) y = LA) := by
                            unfold Hid
                            rw [← HLAQ.out, ← hy.out]
                            cases fuel with
                            | zero => omega
                            | succ m =>
                              rw [Mv.lastOf, if_neg (by rw [hy.out]; exact he)]
                              rfl
                          have hgk := hg2.out
                          clear he
                          go_wp2_with fail
                          go_quiet (fail)
                          go_wp2
                          go_roundg g2
                          case measure => have := hg2.out; omega
                          case rel => exact ⟨y, fuel - 1, _, rfl, by have := hg2.out; omega, hit2.out, hla2.out, rfl⟩
                · skip
                  obtain rfl : k = l.length := by omega
                  have hS : Mv.turnAll spare l s3 = s := by have := HTU.out; rw [List.take_length] at this; exact this
                  have hfin2 : Hid (Mv.order l spare = some s.out) := by unfold Hid; rw [hfin.out, hS]
                  obtain ⟨v, hC, hMF, hMW, hown⟩ := HO.out
                  have c2 := hC.c2
                  have HOWN := Lib.hid hown
                  have HB := Lib.hid hbel
                  clear hk hlt HTU hS hC hMF hMW hown hbel
                  go_wp2
                  go_ret2
                  unfold Ans
                  rw [hfin2.out]
                  exact ⟨v, rfl, HOWN.out, HB.out⟩
end Go.Proofs.Ytdehgidklcflbaa
