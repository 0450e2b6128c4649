/- Plain words for package word: what each call answers, on whole numbers; no program here. -/
import Derived.RowKit
import Derived.IntWalk
import Derived.Laws.Entries
import Derived.Lib.Hide
namespace Go.Proofs.Ytkjfbojmkkdgoaa
open Go.RowKit
def wadd (a b : Int) : Int := wrap64 (a + b)
def wsub (a b : Int) : Int := wrap64 (a - b)
def wmul (a b : Int) : Int := wrap64 (a * b)
def wneg (a : Int) : Int := wrap64 (-a)
def wdiv (a b : Int) : Int := if b = 0 then 0 else wrap64 (a.tdiv b)
def wrem (a b : Int) : Int := if b = 0 then 0 else a.tmod b
def wand (a b : Int) : Int := bits .and .i64 a b
def wor (a b : Int) : Int := bits .or .i64 a b
def wxor (a b : Int) : Int := bits .xor .i64 a b
def wbic (a b : Int) : Int := bits .andNot .i64 a b
def winv (a : Int) : Int := bits .xor .i64 (-1) a
def shlN (a b : Int) : Int := IntKind.i64.wrap (a * 2 ^ min b.toNat 64)
def shrN (a b : Int) : Int := a / 2 ^ min b.toNat 64
def wshl (a b : Int) : Int := if b < 0 then 0 else shlN a b
def wshr (a b : Int) : Int := if b < 0 then 0 else shrN a b
def tr (b : Bool) : Int := if b then 1 else 0
theorem run_shlN (a b : Int) (h : 0 ≤ b) : Op.shift .shl .i64 a .i64 b = pure (.int .i64 (shlN a b)) := by
  have h' : ¬ b < 0 := by omega
  simp [Op.shift, h', shlN, IntKind.bits]
theorem run_shrN (a b : Int) (h : 0 ≤ b) : Op.shift .shr .i64 a .i64 b = pure (.int .i64 (shrN a b)) := by
  have h' : ¬ b < 0 := by omega
  have hp : (0 : Int) ≤ 2 ^ (min b.toNat 64) := Int.pow_nonneg (by decide)
  simp only [Op.shift, h', if_false, shrN, IntKind.bits, Int.fdiv_eq_ediv_of_nonneg _ hp]
def wdo (op a b : Int) : Int :=
  if op = 2 then wadd a b else if op = 3 then wsub a b else if op = 4 then wmul a b else if op = 5 then wdiv a b else if op = 6 then wrem a b
  else if op = 7 then wand a b else if op = 8 then wor a b else if op = 9 then wxor a b else if op = 10 then wbic a b else if op = 11 then wshl a b
  else if op = 12 then wshr a b else if op = 13 then tr (a == b) else if op = 14 then tr (a != b) else if op = 15 then tr (decide (a < b))
  else if op = 16 then tr (decide (a ≤ b)) else if op = 17 then wneg a else if op = 18 then winv a else if op = 19 then wsub 1 a else 0
def isOp (op : Int) : Bool := decide (2 ≤ op ∧ op ≤ 19)
theorem wdo_none (op a b : Int) (h : ¬ (2 ≤ op ∧ op ≤ 19)) : wdo op a b = 0 := by
  unfold wdo
  rw [if_neg (by omega), if_neg (by omega), if_neg (by omega), if_neg (by omega), if_neg (by omega), if_neg (by omega), if_neg (by omega), if_neg (by omega), if_neg (by omega),
    if_neg (by omega), if_neg (by omega), if_neg (by omega), if_neg (by omega), if_neg (by omega), if_neg (by omega), if_neg (by omega), if_neg (by omega), if_neg (by omega)]
theorem isOp_none (op : Int) (h : ¬ (2 ≤ op ∧ op ≤ 19)) : isOp op = false := decide_eq_false h
theorem isOp_yes (op : Int) (h : 2 ≤ op ∧ op ≤ 19) : isOp op = true := decide_eq_true h
end Go.Proofs.Ytkjfbojmkkdgoaa
