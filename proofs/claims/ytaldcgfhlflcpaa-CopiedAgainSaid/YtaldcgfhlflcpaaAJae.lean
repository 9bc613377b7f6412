/- The reference's rows of forms. -/
import Derived.Laws.AppendOwn
import Derived.Deep.LoopGhost
import Derived.Outline
import Derived.Test.YtaldcgfhlflcpaaAJab
import Derived.Test.YtaldcgfhlflcpaaAJad
set_option linter.unusedVariables false
set_option linter.unusedSimpArgs false
set_option linter.unnecessarySimpa false
namespace Go.Proofs.Ytaldcgfhlflcpaa
open Go.RowKit
set_option maxRecDepth 100000
set_option linter.unusedSimpArgs false
set_option linter.unusedVariables false
namespace Rs
def hasB (op : Int) : Bool := !(form op == 0 || form op == 3 || form op == 5)
def hasC (op : Int) : Bool := form op == 1
def bitsOf (op : Int) : Int := if form op = 2 ∨ form op = 3 then 16 else if form op = 4 then 10 else if form op = 5 then 21 else 0
def rowV (k : Nat) : List Value := [.bool true, .bool (hasB k), .bool (hasC k), .int .u64 (bitsOf k), .int .i64 (least k), .int .i64 (most k)]
def rowsV (n : Nat) : List Value := (List.range n).flatMap rowV
theorem flatMap_at {α : Type} (f : Nat → List α) (c : Nat) (hf : ∀ k, (f k).length = c) (n : Nat) : ((List.range n).flatMap f).length = n * c ∧ ∀ k j, k < n → j < c → ((List.range n).flatMap f)[k * c + j]? = (f k)[j]? := by
  induction n with
  | zero => exact ⟨by simp, fun k j h => absurd h (by omega)⟩
  | succ n ih =>
    obtain ⟨hl, hi⟩ := ih
    rw [List.range_succ, List.flatMap_append]
    refine ⟨by simp [hl, hf, Nat.succ_mul], fun k j hk hj => ?_⟩
    have hkc : k < n → k * c + c ≤ n * c := fun h => by have := Nat.mul_le_mul_right c h; rwa [Nat.succ_mul] at this
    by_cases hkn : k < n
    · rw [List.getElem?_append_left (by have := hkc hkn; omega)]
      exact hi k j hkn hj
    · have : k = n := by omega
      subst this
      rw [List.getElem?_append_right (by omega), hl]
      simp
theorem rows_at (k j : Nat) (hk : k < 32) (hj : j < 6) : (rowsV 32)[k * 6 + j]? = (rowV k)[j]? := (flatMap_at rowV 6 (fun _ => rfl) 32).2 k j hk hj
end Rs
theorem infoRow : (Try.prog.info? 96).map (fun i => (i.zero, i.size, i.bytes)) = some (some (.agg #[.bool false, .bool false, .bool false, .int .u64 0, .int .i64 0, .int .i64 0]), 6, 32) := by kernel_rfl

def RowAt (w : World) (b k : Nat) : Prop :=
  w.cell? ⟨b, k * 6, none⟩ = some (.bool true) ∧ w.cell? ⟨b, k * 6 + 1, none⟩ = some (.bool (Rs.hasB k)) ∧ w.cell? ⟨b, k * 6 + 2, none⟩ = some (.bool (Rs.hasC k)) ∧
  w.cell? ⟨b, k * 6 + 3, none⟩ = some (.int .u64 (Rs.bitsOf k)) ∧ w.cell? ⟨b, k * 6 + 4, none⟩ = some (.int .i64 (Rs.least k)) ∧ w.cell? ⟨b, k * 6 + 5, none⟩ = some (.int .i64 (Rs.most k))
def RowsAns (w : World) (e : Ending) (w' : World) : Prop :=
  ∃ b cap, e = .returned (.slice (some ⟨b, 0, none⟩) 32 cap) ∧ w.heap.size ≤ b ∧ b < w'.heap.size ∧ (∀ k, k < 32 → RowAt w' b k) ∧ Below w.heap.size w w'
def r1 : List Value := [.bool true, .bool false, .bool false, .int .u64 0, .int .i64 0, .int .i64 0]
def r3 : List Value := [.bool true, .bool true, .bool true, .int .u64 0, .int .i64 0, .int .i64 0]
def rw16 : List Value := [.bool true, .bool true, .bool false, .int .u64 16, .int .i64 (-32768), .int .i64 32767]
def rp16 : List Value := [.bool true, .bool true, .bool false, .int .u64 16, .int .i64 0, .int .i64 65535]
def rf16 : List Value := [.bool true, .bool true, .bool false, .int .u64 16, .int .i64 0, .int .i64 63]
def rbr : List Value := [.bool true, .bool true, .bool false, .int .u64 10, .int .i64 (-512), .int .i64 511]
def Six (w : World) (b : Nat) (l : List Value) : Prop := b < w.heap.size ∧ ∀ j u, l[j]? = some u → w.cell? ⟨b, j, none⟩ = some u
theorem Six.new {w : World} {l : List Value} {t : TypeId} : Six (w.alloc (.cells l.toArray t)) w.heap.size l :=
  ⟨by simp, fun j u h => by
    have := new_cells (w.alloc (.cells l.toArray t)) (heap_alloc_new w _) j u h
    unfold Addr.add at this
    split at this
    · rename_i h0; subst h0; exact this
    · simpa using this⟩
theorem Six.new' {w : World} {b : Nat} {l : List Value} {t : TypeId} (h : b = w.heap.size) : Six (w.alloc (.cells l.toArray t)) b l := h ▸ Six.new
theorem Six.alloc {w : World} {b : Nat} {l : List Value} (h : Six w b l) (o : Obj) : Six (w.alloc o) b l :=
  ⟨by have := h.1; simp; omega, fun j u hu => (World.cell?_alloc_old w o (a := ⟨b, j, none⟩) (by have := h.1; show b ≠ _; omega)).trans (h.2 j u hu)⟩
theorem Six.grown {w w' : World} {b g : Nat} {l : List Value} (h : Six w b l) (hg : w.grownBy w' (some g)) (hb : b < g) : Six w' b l :=
  ⟨Nat.lt_of_lt_of_le h.1 hg.size, fun j u hu => hg.cell (h.2 j u hu) (by intro e; injection e with e; simp at e; omega)⟩
def RVars (B : Nat) (w : World) : Prop :=
  Six w B r1 ∧ Six w (B + 1) r3 ∧ Six w (B + 1 + 1) rw16 ∧ Six w (B + 1 + 1 + 1) rp16 ∧ Six w (B + 1 + 1 + 1 + 1) rf16 ∧ Six w (B + 1 + 1 + 1 + 1 + 1) rbr
theorem RVars.alloc {B : Nat} {w : World} (h : RVars B w) (o : Obj) : RVars B (w.alloc o) :=
  ⟨h.1.alloc o, h.2.1.alloc o, h.2.2.1.alloc o, h.2.2.2.1.alloc o, h.2.2.2.2.1.alloc o, h.2.2.2.2.2.alloc o⟩
theorem RVars.grown {B g : Nat} {w w' : World} (h : RVars B w) (hg : w.grownBy w' (some g)) (hb : B + 1 + 1 + 1 + 1 + 1 < g) : RVars B w' :=
  ⟨h.1.grown hg (by omega), h.2.1.grown hg (by omega), h.2.2.1.grown hg (by omega), h.2.2.2.1.grown hg (by omega), h.2.2.2.2.1.grown hg (by omega), h.2.2.2.2.2.grown hg (by omega)⟩

theorem Six.one {w : World} {b : Nat} {a c d e f g : Value} (h : Six w b [a, c, d, e, f, g]) :
    w.cell? ⟨b, 0, none⟩ = some a ∧ w.cell? ⟨b, 1, none⟩ = some c ∧ w.cell? ⟨b, 2, none⟩ = some d ∧ w.cell? ⟨b, 3, none⟩ = some e ∧ w.cell? ⟨b, 4, none⟩ = some f ∧ w.cell? ⟨b, 5, none⟩ = some g :=
  ⟨h.2 0 _ rfl, h.2 1 _ rfl, h.2 2 _ rfl, h.2 3 _ rfl, h.2 4 _ rfl, h.2 5 _ rfl⟩

theorem own_next {w2 : World} {B e size n m b c : Nat} {v' : Value} {ys : List Value} (hown2 : w2.ownsRow B e size v' (n + m) ys) (hnil : v' = .slice none 0 0 ↔ Value.slice (some ⟨b, 0, none⟩) n c = .slice none 0 0 ∧ m = 0) :
    ∃ g' c', v' = .slice (some ⟨g', 0, none⟩) (n + m) c' ∧ B ≤ g' ∧ g' < w2.heap.size := by
  rcases own_shape hown2 with ⟨h, _⟩ | ⟨g', c', h, h2, h3, _⟩
  · have := (hnil.1 h).1
    cases this
  · exact ⟨g', c', h, h2, h3⟩
theorem lit' {B e size b : Nat} (w : World) (n : Nat) (l : List Value) (h : b = w.heap.size) (hb : B ≤ w.heap.size) (hm : n ≤ maxLen) (hs : l.length = n * size) : (w.alloc (.cells l.toArray e)).ownsRow B e size (.slice (some ⟨b, 0, none⟩) n n) n l := by
  subst h
  exact World.ownsRow_lit w l.toArray n hb hm (by simpa using hs)
theorem rows_of {w : World} {g : Nat} {xs : List Value} (h : ∀ j, j < xs.length → w.cell? ⟨g, j, none⟩ = some (xs.getD j undef)) (he : xs = Rs.rowsV 32) : ∀ k, k < 32 → RowAt w g k := by
  subst he
  have hl : (Rs.rowsV 32).length = 192 := rfl
  rw [hl] at h
  intro k hk
  have hr : ∀ j, j < 6 → w.cell? ⟨g, k * 6 + j, none⟩ = some ((Rs.rowV k).getD j undef) := by
    intro j hj
    rw [h _ (by omega), List.getD_eq_getElem?_getD, Rs.rows_at k j hk hj, ← List.getD_eq_getElem?_getD]
  exact ⟨hr 0 (by omega), hr 1 (by omega), hr 2 (by omega), hr 3 (by omega), hr 4 (by omega), hr 5 (by omega)⟩

set_option maxHeartbeats 4000000 in
theorem rows_any (w : World) : Calls Try.prog 42 #[] w (RowsAns w) := by
  obtain ⟨i0, hi, hz0, hz1, hz2⟩ := info_parts infoRow
  have HI := Lib.hid hi
  have HZ0 := Lib.hid hz0
  have HZ1 := Lib.hid hz1
  have HZ2 := Lib.hid hz2
  clear hi hz0 hz1 hz2
  go_enter Try.func42, Try.ntmps42
  go_wp2_with fail
  obtain ⟨B, hB⟩ : ∃ B, B = w.heap.size := ⟨_, rfl⟩
  go_loopg [7, 8] 14 (fun g l i wx => ∃ (k b c : Nat), k ≤ 14 ∧ g = 14 - k ∧ i = .int .i64 k ∧ l = .slice (some ⟨b, 0, none⟩) (k + 1) c ∧ w.heap.size + 6 ≤ b ∧ wx.ownsRow (w.heap.size + 6) 96 6 (.slice (some ⟨b, 0, none⟩) (k + 1) c) (k + 1) (r1 ++ (List.replicate k r3).flatten) ∧ RVars w.heap.size wx ∧ Below w.heap.size w wx)
  case atStart =>
    refine ⟨0, _, 1, by omega, rfl, rfl, rfl, Nat.le_refl _, ?_, ?_, ?_⟩
    · exact lit' _ 1 r1 (by simp) (by simp) (by decide) rfl
    · refine RVars.alloc ?_ _
      exact ⟨(((((Six.new' (l := r1) rfl).alloc _).alloc _).alloc _).alloc _).alloc _, ((((Six.new' (l := r3) (by simp)).alloc _).alloc _).alloc _).alloc _, (((Six.new' (l := rw16) (by simp)).alloc _).alloc _).alloc _, ((Six.new' (l := rp16) (by simp)).alloc _).alloc _, (Six.new' (l := rf16) (by simp)).alloc _, Six.new' (l := rbr) (by simp)⟩
    · exact (((((((Below.refl _ _).alloc (Nat.le_refl _) _).alloc (by simp) _).alloc (by simp <;> omega) _).alloc (by simp <;> omega) _).alloc (by simp <;> omega) _).alloc (by simp <;> omega) _).alloc (by simp <;> omega) _
  case round =>
    obtain ⟨k, b, c, hk, rfl, rfl, rfl, hbb, hown, hv, hbel⟩ := hrel
    have HOWN := Lib.hid hown
    have HV := Lib.hid hv
    have HB := Lib.hid hbel
    have hsz : b < wr.heap.size := (own_cap hown).2.1
    clear hown hv hbel
    by_cases hlt : k < 14
    · obtain ⟨s1, s2, s3, s4, s5, s6⟩ := HV.out.2.1.one
      go_wp2_with (first | (at_builtin; refine wpList_append_own _ rfl (.tmp 21) (.tmp 23) 93 rfl (w.heap.size + 6) 96 i0 (.agg #[.bool false, .bool false, .bool false, .int .u64 0, .int .i64 0, .int .i64 0]) 6 32 Try.underlying93 HI.out HZ0.out HZ1.out HZ2.out rfl (by decide) (.slice (some ⟨b, 0, none⟩) (k + 1) c) (k + 1) (r1 ++ (List.replicate k r3).flatten) rfl (HOWN.out.alloc _) ⟨wr.heap.size, 0, none⟩ 1 1 r3 rfl rfl (new_cells _ (heap_new (by simp))) (by simp [Value.oneCell', r1, r3, rw16, rp16, rf16, rbr]) (by simp only [maxLen]; omega) (by omega) (by have := HB.out.size; simp; omega) ?_; intro v' w1 hown2 hgr hnil; obtain ⟨g1, c1, hv1, hg1, hl1⟩ := own_next hown2 hnil; subst hv1; have HOWN1 := Lib.hid hown2; have HV1 := Lib.hid ((HV.out.alloc _).grown hgr (by show _ < b; omega)); have HB1 := Lib.hid ((HB.out.alloc HB.out.size _).grown hgr (by have := HB.out.size; simp; omega) (fun k h => by injection h with h; simp at h; omega)); clear hown2 hgr hnil s1 s2 s3 s4 s5 s6) | fail)
      go_roundg (14 - (k + 1))
      case measure => omega
      case rel => exact ⟨k + 1, g1, c1, by omega, rfl, by go_num, rfl, hg1, by rw [List.replicate_succ', List.flatten_append, ← List.append_assoc]; simpa using HOWN1.out, HV1.out, HB1.out⟩
    · obtain rfl : k = 14 := by omega
      obtain ⟨s1, s2, s3, s4, s5, s6⟩ := HV.out.2.2.1.one
      obtain ⟨t1, t2, t3, t4, t5, t6⟩ := HV.out.2.2.2.1.one
      obtain ⟨u1, u2, u3, u4, u5, u6⟩ := HV.out.2.2.2.2.1.one
      go_wp2_with (first | (at_builtin; refine wpList_append_own _ rfl (.tmp 25) (.tmp 31) 93 rfl (w.heap.size + 6) 96 i0 (.agg #[.bool false, .bool false, .bool false, .int .u64 0, .int .i64 0, .int .i64 0]) 6 32 Try.underlying93 HI.out HZ0.out HZ1.out HZ2.out rfl (by decide) (.slice (some ⟨b, 0, none⟩) 15 c) 15 (r1 ++ (List.replicate 14 r3).flatten) rfl (HOWN.out.alloc _) ⟨wr.heap.size, 0, none⟩ 5 5 (rw16 ++ rp16 ++ rp16 ++ rf16 ++ rf16) rfl rfl (new_cells _ (heap_new (by simp))) (by simp [Value.oneCell', r1, r3, rw16, rp16, rf16, rbr]) (by simp only [maxLen]; omega) (by omega) (by have := HB.out.size; simp; omega) ?_; intro v' w1 hown2 hgr hnil; obtain ⟨g1, c1, hv1, hg1, hl1⟩ := own_next hown2 hnil; subst hv1; have HOWN1 := Lib.hid hown2; have HV1 := Lib.hid ((HV.out.alloc _).grown hgr (by show _ < b; omega)); have HB1 := Lib.hid ((HB.out.alloc HB.out.size _).grown hgr (by have := HB.out.size; simp; omega) (fun k h => by injection h with h; simp at h; omega)); clear hown2 hgr hnil s1 s2 s3 s4 s5 s6 t1 t2 t3 t4 t5 t6 u1 u2 u3 u4 u5 u6; obtain ⟨s1, s2, s3, s4, s5, s6⟩ := HV1.out.2.2.1.one) | (at_builtin; refine wpList_append_own _ rfl (.tmp 33) (.tmp 38) 93 rfl (w.heap.size + 6) 96 i0 (.agg #[.bool false, .bool false, .bool false, .int .u64 0, .int .i64 0, .int .i64 0]) 6 32 Try.underlying93 HI.out HZ0.out HZ1.out HZ2.out rfl (by decide) (.slice (some ⟨g1, 0, none⟩) 20 c1) 20 _ rfl (HOWN1.out.alloc _) ⟨w1.heap.size, 0, none⟩ 4 4 ([.bool true, .bool false, .bool false, .int .u64 16, .int .i64 (-32768), .int .i64 32767] ++ [.bool true, .bool false, .bool false, .int .u64 16, .int .i64 0, .int .i64 65535] ++ rw16 ++ rw16) rfl rfl (new_cells _ (heap_new (by simp))) (by simp [Value.oneCell', r1, r3, rw16, rp16, rf16, rbr]) (by simp only [maxLen]; omega) (by omega) (by have := HB1.out.size; simp; omega) ?_; intro v' w2 hown2 hgr hnil; obtain ⟨g2, c2, hv2, hg2, hl2⟩ := own_next hown2 hnil; subst hv2; have HOWN2 := Lib.hid hown2; have HV2 := Lib.hid ((HV1.out.alloc _).grown hgr (by show _ < g1; omega)); have HB2 := Lib.hid ((HB1.out.alloc HB1.out.size _).grown hgr (by have := HB1.out.size; simp; omega) (fun k h => by injection h with h; simp at h; omega)); clear hown2 hgr hnil s1 s2 s3 s4 s5 s6; obtain ⟨s1, s2, s3, s4, s5, s6⟩ := HV2.out.2.2.2.2.2.one) | (at_builtin; refine wpList_append_own _ rfl (.tmp 40) (.tmp 45) 93 rfl (w.heap.size + 6) 96 i0 (.agg #[.bool false, .bool false, .bool false, .int .u64 0, .int .i64 0, .int .i64 0]) 6 32 Try.underlying93 HI.out HZ0.out HZ1.out HZ2.out rfl (by decide) (.slice (some ⟨g2, 0, none⟩) 24 c2) 24 _ rfl (HOWN2.out.alloc _) ⟨w2.heap.size, 0, none⟩ 4 4 (rbr ++ rbr ++ rbr ++ rbr) rfl rfl (new_cells _ (heap_new (by simp))) (by simp [Value.oneCell', r1, r3, rw16, rp16, rf16, rbr]) (by simp only [maxLen]; omega) (by omega) (by have := HB2.out.size; simp; omega) ?_; intro v' w3 hown2 hgr hnil; obtain ⟨g3, c3, hv3, hg3, hl3⟩ := own_next hown2 hnil; subst hv3; have HOWN3 := Lib.hid hown2; have HV3 := Lib.hid ((HV2.out.alloc _).grown hgr (by show _ < g2; omega)); have HB3 := Lib.hid ((HB2.out.alloc HB2.out.size _).grown hgr (by have := HB2.out.size; simp; omega) (fun k h => by injection h with h; simp at h; omega)); clear hown2 hgr hnil s1 s2 s3 s4 s5 s6; obtain ⟨s1, s2, s3, s4, s5, s6⟩ := HV3.out.1.one)  | (at_builtin; refine wpList_append_own _ rfl (.tmp 47) (.tmp 52) 93 rfl (w.heap.size + 6) 96 i0 (.agg #[.bool false, .bool false, .bool false, .int .u64 0, .int .i64 0, .int .i64 0]) 6 32 Try.underlying93 HI.out HZ0.out HZ1.out HZ2.out rfl (by decide) (.slice (some ⟨g3, 0, none⟩) 28 c3) 28 _ rfl (HOWN3.out.alloc _) ⟨w3.heap.size, 0, none⟩ 4 4 ([.bool true, .bool false, .bool false, .int .u64 21, .int .i64 (-1048576), .int .i64 1048575] ++ [.bool true, .bool true, .bool false, .int .u64 0, .int .i64 0, .int .i64 0] ++ r1 ++ r1) rfl rfl (new_cells _ (heap_new (by simp))) (by simp [Value.oneCell', r1, r3, rw16, rp16, rf16, rbr]) (by simp only [maxLen]; omega) (by omega) (by have := HB3.out.size; simp; omega) ?_; intro v' w4 hown2 hgr hnil; obtain ⟨g4, c4, hv4, hg4, hl4⟩ := own_next hown2 hnil; subst hv4; have HOWN4 := Lib.hid hown2; have HV4 := Lib.hid ((HV3.out.alloc _).grown hgr (by show _ < g3; omega)); have HB4 := Lib.hid ((HB3.out.alloc HB3.out.size _).grown hgr (by have := HB3.out.size; simp; omega) (fun k h => by injection h with h; simp at h; omega)); clear hown2 hgr hnil s1 s2 s3 s4 s5 s6) | fail)
      go_ret
      refine ⟨g4, c4, rfl, by omega, hl4, ?_, HB4.out⟩
      exact rows_of (own_cells HOWN4.out) (by kernel_rfl)
end Go.Proofs.Ytaldcgfhlflcpaa
