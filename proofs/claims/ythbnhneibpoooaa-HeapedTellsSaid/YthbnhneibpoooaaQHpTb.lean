/- The primitives: their names, what they want, what they ask. -/
import Derived.Test.YthbnhneibpoooaaQMD
set_option linter.unusedVariables false
set_option linter.unusedSimpArgs false
set_option linter.unnecessarySimpa false
namespace Go.Proofs.Ythbnhneibpoooaa
open Go.RowKit
set_option linter.unusedVariables false
set_option linter.unusedSimpArgs false
namespace Hp
/-- A primitive: its name, its arguments' letters, the kind and the letter that it asks for. -/
structure Row where
  name : ByteArray
  letters : List Int
  bytes : ByteArray
  ask : Int
  letter : Int
def tab : List Row := [
  ⟨⟨#[43]⟩, [105, 105], ⟨#[105, 105]⟩, -1, 0⟩,
  ⟨⟨#[45]⟩, [105, 105], ⟨#[105, 105]⟩, -1, 0⟩,
  ⟨⟨#[42]⟩, [105, 105], ⟨#[105, 105]⟩, -1, 0⟩,
  ⟨⟨#[113, 117, 111, 116, 105, 101, 110, 116]⟩, [105, 105], ⟨#[105, 105]⟩, -1, 0⟩,
  ⟨⟨#[114, 101, 109, 97, 105, 110, 100, 101, 114]⟩, [105, 105], ⟨#[105, 105]⟩, -1, 0⟩,
  ⟨⟨#[60]⟩, [105, 105], ⟨#[105, 105]⟩, -1, 0⟩,
  ⟨⟨#[61]⟩, [105, 105], ⟨#[105, 105]⟩, -1, 0⟩,
  ⟨⟨#[101, 113, 63]⟩, [46, 46], ⟨#[46, 46]⟩, -1, 0⟩,
  ⟨⟨#[110, 117, 108, 108, 63]⟩, [46], ⟨#[46]⟩, 4, 0⟩,
  ⟨⟨#[115, 121, 109, 98, 111, 108, 63]⟩, [46], ⟨#[46]⟩, 3, 0⟩,
  ⟨⟨#[99, 104, 97, 114, 63]⟩, [46], ⟨#[46]⟩, 2, 0⟩,
  ⟨⟨#[105, 110, 116, 101, 103, 101, 114, 63]⟩, [46], ⟨#[46]⟩, 1, 0⟩,
  ⟨⟨#[98, 111, 111, 108, 101, 97, 110, 63]⟩, [46], ⟨#[46]⟩, 0, 0⟩,
  ⟨⟨#[101, 111, 102, 45, 111, 98, 106, 101, 99, 116, 63]⟩, [46], ⟨#[46]⟩, 6, 0⟩,
  ⟨⟨#[112, 97, 105, 114, 63]⟩, [46], ⟨#[46]⟩, 0, 112⟩,
  ⟨⟨#[118, 101, 99, 116, 111, 114, 63]⟩, [46], ⟨#[46]⟩, 0, 118⟩,
  ⟨⟨#[115, 116, 114, 105, 110, 103, 63]⟩, [46], ⟨#[46]⟩, 0, 115⟩,
  ⟨⟨#[112, 114, 111, 99, 101, 100, 117, 114, 101, 63]⟩, [46], ⟨#[46]⟩, 0, 114⟩,
  ⟨⟨#[99, 111, 110, 115]⟩, [46, 46], ⟨#[46, 46]⟩, -1, 0⟩,
  ⟨⟨#[99, 97, 114]⟩, [112], ⟨#[112]⟩, -1, 0⟩,
  ⟨⟨#[99, 100, 114]⟩, [112], ⟨#[112]⟩, -1, 0⟩,
  ⟨⟨#[115, 101, 116, 45, 99, 97, 114, 33]⟩, [112, 46], ⟨#[112, 46]⟩, -1, 0⟩,
  ⟨⟨#[115, 101, 116, 45, 99, 100, 114, 33]⟩, [112, 46], ⟨#[112, 46]⟩, -1, 0⟩,
  ⟨⟨#[109, 97, 107, 101, 45, 118, 101, 99, 116, 111, 114]⟩, [105, 46], ⟨#[105, 46]⟩, -1, 0⟩,
  ⟨⟨#[109, 97, 107, 101, 45, 115, 116, 114, 105, 110, 103]⟩, [105, 99], ⟨#[105, 99]⟩, -1, 0⟩,
  ⟨⟨#[118, 101, 99, 116, 111, 114, 45, 108, 101, 110, 103, 116, 104]⟩, [118], ⟨#[118]⟩, -1, 0⟩,
  ⟨⟨#[115, 116, 114, 105, 110, 103, 45, 108, 101, 110, 103, 116, 104]⟩, [115], ⟨#[115]⟩, -1, 0⟩,
  ⟨⟨#[118, 101, 99, 116, 111, 114, 45, 114, 101, 102]⟩, [118, 105], ⟨#[118, 105]⟩, -1, 0⟩,
  ⟨⟨#[115, 116, 114, 105, 110, 103, 45, 114, 101, 102]⟩, [115, 105], ⟨#[115, 105]⟩, -1, 0⟩,
  ⟨⟨#[118, 101, 99, 116, 111, 114, 45, 115, 101, 116, 33]⟩, [118, 105, 46], ⟨#[118, 105, 46]⟩, -1, 0⟩,
  ⟨⟨#[115, 116, 114, 105, 110, 103, 45, 115, 101, 116, 33]⟩, [115, 105, 99], ⟨#[115, 105, 99]⟩, -1, 0⟩,
  ⟨⟨#[99, 104, 97, 114, 45, 62, 105, 110, 116, 101, 103, 101, 114]⟩, [99], ⟨#[99]⟩, -1, 0⟩,
  ⟨⟨#[105, 110, 116, 101, 103, 101, 114, 45, 62, 99, 104, 97, 114]⟩, [105], ⟨#[105]⟩, -1, 0⟩,
  ⟨⟨#[37, 98, 111, 120]⟩, [46], ⟨#[46]⟩, -1, 0⟩,
  ⟨⟨#[37, 117, 110, 98, 111, 120]⟩, [98], ⟨#[98]⟩, -1, 0⟩,
  ⟨⟨#[37, 115, 101, 116, 45, 98, 111, 120, 33]⟩, [98, 46], ⟨#[98, 46]⟩, -1, 0⟩,
  ⟨⟨#[118, 111, 105, 100]⟩, [], ⟨#[]⟩, -1, 0⟩,
  ⟨⟨#[37, 117, 110, 115, 101, 116]⟩, [], ⟨#[]⟩, -1, 0⟩]
end Hp
set_option maxHeartbeats 16000000 in
set_option maxRecDepth 100000 in
theorem wants_at : ∀ x ∈ Hp.tab, ∀ w : World, Calls Try.prog 25 #[.string x.name] w fun e w' => e = .returned (.tuple #[.string x.bytes, .bool true]) ∧ w = w' := by
  intro x hx
  simp only [Hp.tab, List.mem_cons, List.not_mem_nil, or_false] at hx
  rcases hx with rfl | rfl | rfl | rfl | rfl | rfl | rfl | rfl | rfl | rfl | rfl | rfl | rfl | rfl | rfl | rfl | rfl | rfl | rfl | rfl | rfl | rfl | rfl | rfl | rfl | rfl | rfl | rfl | rfl | rfl | rfl | rfl | rfl | rfl | rfl | rfl | rfl | rfl
  all_goals
    intro w
    go_enter Try.func25, Try.ntmps25
    go_wp2_with fail
    go_ret2
    exact ⟨rfl, rfl⟩
set_option maxHeartbeats 16000000 in
set_option maxRecDepth 100000 in
theorem asks_at : ∀ x ∈ Hp.tab, ∀ w : World, Calls Try.prog 28 #[.string x.name] w fun e w' => e = .returned (.tuple #[.int .i64 x.ask, .int .u8 x.letter]) ∧ w = w' := by
  intro x hx
  simp only [Hp.tab, List.mem_cons, List.not_mem_nil, or_false] at hx
  rcases hx with rfl | rfl | rfl | rfl | rfl | rfl | rfl | rfl | rfl | rfl | rfl | rfl | rfl | rfl | rfl | rfl | rfl | rfl | rfl | rfl | rfl | rfl | rfl | rfl | rfl | rfl | rfl | rfl | rfl | rfl | rfl | rfl | rfl | rfl | rfl | rfl | rfl | rfl
  all_goals
    intro w
    go_enter Try.func28, Try.ntmps28
    go_wp2_with fail
    go_ret2
    exact ⟨rfl, rfl⟩
end Go.Proofs.Ythbnhneibpoooaa
