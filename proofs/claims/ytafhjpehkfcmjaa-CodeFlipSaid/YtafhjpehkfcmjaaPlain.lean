/- Code, and what is code: plain things. No program here. -/
import Derived.Test.YtafhjpehkfcmjaaMem
set_option linter.unusedVariables false
set_option linter.unusedSimpArgs false
namespace Go.Proofs.Ytafhjpehkfcmjaa
structure Ins where
  op : Int
  a : Int
  b : Int
  c : Int
  n : Int
structure Fn where
  name : ByteArray
  frame : Int
  first : Int
  count : Int
  params : Int
/-- The fields that an operation uses (1 a, 2 b, 4 c, 8 n), and whether it is one. -/
def usesOf (op : Int) : Int × Bool :=
  if op == 27 then (0, true)
  else if op == 1 || op == 22 || op == 23 || op == 24 || op == 25 || op == 32 || op == 33 || op == 35 then (9, true)
  else if op == 2 || op == 18 || op == 19 || op == 20 || op == 28 || op == 29 then (3, true)
  else if op == 30 || op == 31 then (7, true)
  else if op == 21 || op == 26 then (8, true)
  else if op == 34 then (11, true)
  else if op == 36 || op == 37 || op == 38 then (1, true)
  else (7, decide (3 ≤ op) && decide (op ≤ 17))
/-- How many registers, whether N, whether it is one. -/
def shapeOf (op : Int) : Int × Bool × Bool :=
  if op == 27 then (0, false, true)
  else if op == 21 || op == 26 then (0, true, true)
  else if op == 1 || op == 22 || op == 23 || op == 24 || op == 25 || op == 32 || op == 33 || op == 35 then (1, true, true)
  else if op == 36 || op == 37 || op == 38 then (1, false, true)
  else if op == 2 || op == 18 || op == 19 || op == 20 || op == 28 || op == 29 then (2, false, true)
  else if op == 34 then (2, true, true)
  else (3, false, (decide (3 ≤ op) && decide (op ≤ 17) || op == 30) || op == 31)
def fieldOk (n : Int) (used : Bool) : Bool := n == 0 || used && decide (0 < n) && decide (n < 16)
def numberOk (nf : Nat) (f : Fn) (i : Ins) : Bool :=
  if i.op == 1 then true
  else if i.op == 21 || i.op == 22 || i.op == 23 then decide (f.first ≤ i.n) && decide (i.n - f.first < f.count)
  else if i.op == 24 || i.op == 25 then decide (2 ≤ i.n) && decide (i.n < f.frame)
  else if i.op == 26 then decide (0 ≤ i.n) && decide (i.n < (nf : Int))
  else if i.op == 32 || i.op == 33 || i.op == 34 then decide (1 ≤ i.n) && decide (i.n ≤ 5)
  else if i.op == 35 then decide (1 ≤ i.n) && decide (i.n ≤ 6)
  else i.n == 0
end Go.Proofs.Ytafhjpehkfcmjaa
