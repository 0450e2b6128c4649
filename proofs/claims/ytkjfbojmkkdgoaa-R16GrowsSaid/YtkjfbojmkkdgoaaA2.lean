/- Code, and what is code: plain things. No program here. r16's uses, field: walks. r16's number: the walk. -/
import Derived.Test.YtkjfbojmkkdgoaaMem
import Derived.Test.YtkjfbojmkkdgoaaChecked
import Derived.Deep.RegionLaw
import Derived.Deep.RegionHeld3
import Derived.Deep.DrawnRows
import Derived.Deep.QuietTactic
import Derived.WalkKit
import Derived.BigQuiet
import Derived.KernelRfl
import Derived.Lib.Hide
import Derived.Deep.DeepMust
set_option linter.unusedVariables false
set_option linter.unusedSimpArgs false
namespace Go.Proofs.Ytkjfbojmkkdgoaa
structure Ins where
  op : Int
  a : Int
  b : Int
  c : Int
  n : Int
structure Fn where
  name : ByteArray
  frame : Int
  first : Int
  count : Int
  params : Int
/-- The fields that an operation uses (1 a, 2 b, 4 c, 8 n), and whether it is one. -/
def usesOf (op : Int) : Int × Bool :=
  if op == 27 then (0, true)
  else if op == 1 || op == 22 || op == 23 || op == 24 || op == 25 || op == 32 || op == 33 || op == 35 then (9, true)
  else if op == 2 || op == 18 || op == 19 || op == 20 || op == 28 || op == 29 then (3, true)
  else if op == 30 || op == 31 then (7, true)
  else if op == 21 || op == 26 then (8, true)
  else if op == 34 then (11, true)
  else if op == 36 || op == 37 || op == 38 then (1, true)
  else (7, decide (3 ≤ op) && decide (op ≤ 17))
def fieldOk (n : Int) (used : Bool) : Bool := n == 0 || used && decide (0 < n) && decide (n < 16)
def numberOk (nf : Nat) (f : Fn) (i : Ins) : Bool :=
  if i.op == 1 then true
  else if i.op == 21 || i.op == 22 || i.op == 23 then decide (f.first ≤ i.n) && decide (i.n - f.first < f.count)
  else if i.op == 24 || i.op == 25 then decide (2 ≤ i.n) && decide (i.n < f.frame)
  else if i.op == 26 then decide (0 ≤ i.n) && decide (i.n < (nf : Int))
  else if i.op == 32 || i.op == 33 || i.op == 34 then decide (1 ≤ i.n) && decide (i.n ≤ 5)
  else if i.op == 35 then decide (1 ≤ i.n) && decide (i.n ≤ 6)
  else i.n == 0
end Go.Proofs.Ytkjfbojmkkdgoaa
namespace Go.Proofs.Ytkjfbojmkkdgoaa
open Go.RowKit
attribute [local go_sem ↓] Go.wp_at_zero Go.wp_at_succ
set_option maxRecDepth 100000 in
set_option maxHeartbeats 4000000 in
theorem uses_c (op : Int) (hop : i64in op) (w : World) : Calls Try.prog 48 #[.int .i64 op] w fun e w' => e = .returned (.tuple #[.int .i64 (usesOf op).1, .bool (usesOf op).2]) ∧ w = w' := by
  obtain ⟨h1, h2⟩ := hop
  go_enter Try.func48, Try.ntmps48
  go_wp2
  all_goals go_ret2
  all_goals exact ⟨by first | (simp [usesOf, *]; done) | (simp [usesOf, *]; omega), rfl⟩
set_option maxRecDepth 100000 in
set_option maxHeartbeats 4000000 in
theorem field_c (n : Int) (hn : i64in n) (u : Bool) (w : World) : Calls Try.prog 49 #[.int .i64 n, .bool u] w fun e w' => e = .returned (.bool (fieldOk n u)) ∧ w = w' := by
  obtain ⟨h1, h2⟩ := hn
  cases h0 : (n == 0) <;> cases u
  all_goals go_enter Try.func49, Try.ntmps49
  all_goals go_wp2
  all_goals go_ret
  all_goals exact ⟨by first | (simp [fieldOk, *]; done) | (simp [fieldOk, *]; omega), rfl⟩
end Go.Proofs.Ytkjfbojmkkdgoaa
namespace Go.Proofs.Ytkjfbojmkkdgoaa
open Go.RowKit
attribute [local go_sem ↓] Go.wp_at_zero Go.wp_at_succ
def insV (i : Ins) : Value := .agg #[.int .i64 i.op, .int .i64 i.a, .int .i64 i.b, .int .i64 i.c, .int .i64 i.n]
def fnV (f : Fn) : Value := .agg #[.string f.name, .int .i64 f.frame, .int .i64 f.first, .int .i64 f.count, .int .i64 f.params]
def codeV (A : Option Addr) (ni ci : Nat) (B : Option Addr) (nf cf : Nat) (m : Int) : Value := .agg #[.slice A ni ci, .slice B nf cf, .int .i64 m]
structure InsIn (i : Ins) : Prop where
  op : i64in i.op
  a : i64in i.a
  b : i64in i.b
  c : i64in i.c
  n : i64in i.n
structure FnIn (f : Fn) : Prop where
  frame : i64in f.frame
  first : i64in f.first
  count : i64in f.count
  params : i64in f.params
theorem ba {w w' : World} (h : Below w.heap.size w w') (o : Obj) : Below w.heap.size w (w'.alloc o) := h.alloc h.size o
set_option maxRecDepth 100000 in
set_option maxHeartbeats 4000000 in
theorem number_c (A : Option Addr) (ni ci : Nat) (B : Option Addr) (nf cf : Nat) (m : Int) (f : Fn) (hf : FnIn f) (hf0 : 0 ≤ f.first) (i : Ins) (hi : InsIn i) (hnf : nf ≤ 9223372036854775807) (w : World) :
    Calls Try.prog 50 #[codeV A ni ci B nf cf m, fnV f, insV i] w fun e w' => e = .returned (.bool (numberOk nf f i)) ∧ Below w.heap.size w w' := by
  obtain ⟨op, a, b, c, n⟩ := i
  obtain ⟨name, frame, first, count, params⟩ := f
  obtain ⟨⟨o1, o2⟩, _, _, _, ⟨n1, n2⟩⟩ := hi
  obtain ⟨⟨f1, f2⟩, ⟨f3, f4⟩, ⟨f5, f6⟩, _⟩ := hf
  simp only at *
  unfold codeV fnV insV
  simp only
  go_enter Try.func50, Try.ntmps50
  go_wp2
  all_goals go_ret
  all_goals refine ⟨?_, by repeat (first | exact Below.refl _ _ | apply ba)⟩
  all_goals first | (simp [numberOk, *]; done) | (simp [numberOk, *]; omega)
end Go.Proofs.Ytkjfbojmkkdgoaa
