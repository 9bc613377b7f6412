/- The small functions of package risc. -/
import Derived.WalkKit
import Derived.Lib.Hide
import Derived.BigQuiet
import Derived.Test.YtaldcgfhlflcpaaRows
set_option linter.unusedVariables false
set_option linter.unusedSimpArgs false
set_option linter.unnecessarySimpa false
namespace Go.Proofs.Ytaldcgfhlflcpaa
open Go.RowKit
set_option maxRecDepth 100000
set_option linter.unusedSimpArgs false
set_option linter.unusedVariables false
namespace Rs
def form (op : Int) : Int :=
  if op = 0 ∨ op = 30 ∨ op = 31 then 0 else if 1 ≤ op ∧ op ≤ 14 then 1 else if (15 ≤ op ∧ op ≤ 19) ∨ op = 22 ∨ op = 23 then 2
  else if op = 20 ∨ op = 21 then 3 else if 24 ≤ op ∧ op ≤ 27 then 4 else if op = 28 then 5 else if op = 29 then 6 else 7
def least (op : Int) : Int :=
  if op = 16 ∨ op = 17 ∨ op = 21 ∨ op = 18 ∨ op = 19 then 0 else if form op = 2 ∨ form op = 3 then -32768 else if form op = 4 then -512 else if form op = 5 then -1048576 else 0
def most (op : Int) : Int :=
  if op = 16 ∨ op = 17 ∨ op = 21 then 65535 else if op = 18 ∨ op = 19 then 63 else if form op = 2 ∨ form op = 3 then 32767 else if form op = 4 then 511 else if form op = 5 then 1048575 else 0
end Rs

def Rs.isReg (n : Int) : Bool := decide (0 ≤ n ∧ n ≤ 31)
end Go.Proofs.Ytaldcgfhlflcpaa
