/- An argument that is a slice of moves, opened with its reach. -/
import Derived.Test.YtdehgidklcflbaaMovesOpen
import Derived.SizedLaws
namespace Go.Proofs.Ytdehgidklcflbaa
open Go.ChangeShapes Go.WideShapes Go.Deep Go.RowKit
section
variable {H : Type} {enc : TypeId × Value → H} {w : World} {base : Nat} {spare : Nat → Bool} {held : Bool}
theorem moves_datum {r : Reach} {b0 : Nat} {a : Option Addr} {n cap : Nat} {d : DataW H} {ps : List MemPlace} (h : DataW.Trod enc Try.prog w base spare held 22 (.slice a n cap) d ps) :
    n = 0 ∨ ∃ el sp, d = .slice el sp ∧ el.length = n := by
  obtain ⟨fuel, hf⟩ := h
  have hu := Try.underlying30
  obtain ⟨h1, h2, h3, h4, h5⟩ := moveOne _ hu
  rcases open_slice_fields Try.underlying22 hu h1 h2 hf with ⟨hcs, _⟩ | ⟨a', len', cap', m, D, Pl, hcs, _, hle, hmax, hm, hx, hi⟩
  · simp [Value.cells] at hcs
    exact .inl hcs.2.1
  · simp [Value.cells] at hcs
    obtain ⟨rfl, rfl, rfl⟩ := hcs
    refine .inr ⟨_, _, (Prod.mk.inj hx).1, by simp⟩
theorem bytesMove : Try.prog.bytesOf 30 = 16 := by kernel_rfl
theorem moves_reach {r : Reach} {ts : List TypeId} {ds : List (DataW H)} (hs : (DataW.weightsEach Try.prog ts ds).all (· ≤ reachBytes) = true) {a : Option Addr} {n cap : Nat} {d : DataW H} {ps : List MemPlace}
    (h : DataW.Trod enc Try.prog w base spare held 22 (.slice a n cap) d ps) (ht : ts[0]? = some 22) (hd : ds[0]? = some d) : n * 16 ≤ 140737488355328 := by
  rcases moves_datum (r := r) (b0 := 0) h with h0 | ⟨el, sp, rfl, he⟩
  · rw [h0]; decide
  · have := sized_slice hs ht hd Try.underlying22
    rw [bytesMove] at this
    simp only [reachBytes] at this
    omega
end
end Go.Proofs.Ytdehgidklcflbaa
