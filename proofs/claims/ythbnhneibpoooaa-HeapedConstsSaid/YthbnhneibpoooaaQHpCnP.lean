/- HeapedConsts' walk, for its proof. -/
import Derived.Test.YthbnhneibpoooaaQMQ
import Derived.Test.YthbnhneibpoooaaQHpOpd
set_option linter.unusedVariables false
set_option linter.unusedSimpArgs false
set_option linter.unnecessarySimpa false
namespace Go.Proofs.Ythbnhneibpoooaa
open Go.RowKit
set_option linter.unusedVariables false
set_option linter.unusedSimpArgs false
theorem consts_any (d : Dt) (lv : Value) (w : World) (hd : DtAt w (fun _ => True) (.agg #[.int .i64 d.kind, .int .i64 d.int, .string d.text, lv]) d) (hf : Dt.Fit d) :
    Calls Try.prog 7 #[.agg #[.int .i64 d.kind, .int .i64 d.int, .string d.text, lv]] w fun e w' => e = .returned (.bool true) ∧ Below w.heap.size w w' := consts_walk d _ w hd hf
end Go.Proofs.Ythbnhneibpoooaa
