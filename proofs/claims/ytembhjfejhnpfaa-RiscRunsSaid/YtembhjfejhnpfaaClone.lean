/- slices.Clone at []int. -/
import Derived.Test.YtembhjfejhnpfaaSl
import Derived.Laws.AppendOwn
namespace Go.Proofs.Ytembhjfejhnpfaa
open Go.RowKit
set_option linter.unusedSimpArgs false
set_option linter.unusedVariables false
theorem infoI : (Try.prog.info? 3).map (fun i => (i.zero, i.size, i.bytes)) = some (some (.int .i64 0), 1, 8) := by kernel_rfl
theorem alloc_cells {w : World} {ad : Addr} {zs : List Value} (h : ∀ j u, zs[j]? = some u → w.cell? (ad.add j) = some u) (o : Obj) : ∀ j u, zs[j]? = some u → (w.alloc o).cell? (ad.add j) = some u := by
  intro j u hu
  have h1 := h j u hu
  have h2 := World.block_lt_of_cell? w _ h1
  exact (((Below.refl w.heap.size w).alloc (Nat.le_refl _) o).cell (p := ad.add j) h2).trans h1
def ClonePost (zs : List Value) (w : World) (e : Ending) (w' : World) : Prop := ∃ v, e = .returned v ∧ w'.ownsRow w.heap.size 3 1 v zs.length zs ∧ Below w.heap.size w w'
set_option maxHeartbeats 1000000 in
theorem clone_any (v : Value) (zs : List Value) (w : World) (h : Sl w v zs) (h1 : ∀ u ∈ zs, u.oneCell' = true) (hlen : zs.length ≤ 1000000000000) :
    Calls Try.prog 25 #[v] w (ClonePost zs w) := by
  obtain ⟨a, cap, rfl, hsl⟩ := h
  rcases hsl with ⟨rfl, rfl, rfl⟩ | ⟨ad, rfl, hc⟩
  · have hnn : ∀ w : World, (binOp .eql 33 (.slice none 0 0) (.slice none 0 0)).run Try.prog w = .ok (.bool true) w := fun w => by rw [Lib.run_eql_slice_nil (h := Try.underlying33)]; rfl
    have HO := Lib.hid (World.ownsRow_nil w w.heap.size 3 1)
    go_enter Try.func25, Try.ntmps25
    go_wp2
    go_ret
    exact ⟨_, rfl, HO.out, Below.refl _ _⟩
  · have hnn : ∀ w : World, (binOp .eql 33 (.slice (some ad) zs.length cap) (.slice none 0 0)).run Try.prog w = .ok (.bool false) w := fun w => by rw [Lib.run_eql_slice_nil (h := Try.underlying33)]; rfl
    obtain ⟨i0, hi, hz0, hz1, hz2⟩ := info_parts infoI
    have HI := Lib.hid hi
    have HZ0 := Lib.hid hz0
    have HZ1 := Lib.hid hz1
    have HZ2 := Lib.hid hz2
    have HC := Lib.hid hc
    have H1 := Lib.hid h1
    clear hi hz0 hz1 hz2 hc h1
    have HE := Lib.hid (World.ownsRow_lit (base := w.heap.size) (e := 3) (size := 1) w #[] 0 (Nat.le_refl _) (by decide) rfl)
    go_enter Try.func25, Try.ntmps25
    go_wp2_with (first | (at_builtin; refine wpList_append_own _ rfl (.tmp 5) (.tmp 6) 33 rfl w.heap.size 3 i0 (.int .i64 0) 1 8 Try.underlying33 HI.out HZ0.out HZ1.out HZ2.out rfl (by decide) (.slice (some ⟨w.heap.size, 0, none⟩) 0 0) 0 [] rfl ?a2 ad zs.length cap zs rfl ?a3 ?a4 ?a5 ?a6 ?a7 ?a8 ?_; (case a2 => exact HE.out); (case a3 => simp); (case a4 => exact alloc_cells HC.out _); (case a5 => exact H1.out); (case a6 => (simp only [maxLen]; omega)); (case a7 => omega); (case a8 => simp); intro v' w2 hown2 hgr hnil))
    go_ret
    simp only [Nat.zero_add, List.nil_append] at hown2
    exact ⟨_, rfl, hown2, ((Below.refl _ _).alloc (Nat.le_refl _) _).grown hgr (by simp) (fun k hk => by simp [Value.ownBlock] at hk; omega)⟩
end Go.Proofs.Ytembhjfejhnpfaa
