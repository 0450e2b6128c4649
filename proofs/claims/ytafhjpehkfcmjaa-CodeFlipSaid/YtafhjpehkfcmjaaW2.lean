/- r16's number: the walk. -/
import Derived.Test.YtafhjpehkfcmjaaW1
set_option linter.unusedVariables false
set_option linter.unusedSimpArgs false
namespace Go.Proofs.Ytafhjpehkfcmjaa
open Go.RowKit
attribute [local go_sem ↓] Go.wp_at_zero Go.wp_at_succ
def insV (i : Ins) : Value := .agg #[.int .i64 i.op, .int .i64 i.a, .int .i64 i.b, .int .i64 i.c, .int .i64 i.n]
def fnV (f : Fn) : Value := .agg #[.string f.name, .int .i64 f.frame, .int .i64 f.first, .int .i64 f.count, .int .i64 f.params]
def codeV (A : Option Addr) (ni ci : Nat) (B : Option Addr) (nf cf : Nat) (m : Int) : Value := .agg #[.slice A ni ci, .slice B nf cf, .int .i64 m]
structure InsIn (i : Ins) : Prop where
  op : i64in i.op
  a : i64in i.a
  b : i64in i.b
  c : i64in i.c
  n : i64in i.n
structure FnIn (f : Fn) : Prop where
  frame : i64in f.frame
  first : i64in f.first
  count : i64in f.count
  params : i64in f.params
theorem ba {w w' : World} (h : Below w.heap.size w w') (o : Obj) : Below w.heap.size w (w'.alloc o) := h.alloc h.size o
set_option maxRecDepth 100000 in
set_option maxHeartbeats 4000000 in
theorem number_c (A : Option Addr) (ni ci : Nat) (B : Option Addr) (nf cf : Nat) (m : Int) (f : Fn) (hf : FnIn f) (hf0 : 0 ≤ f.first) (i : Ins) (hi : InsIn i) (hnf : nf ≤ 9223372036854775807) (w : World) :
    Calls Try.prog 48 #[codeV A ni ci B nf cf m, fnV f, insV i] w fun e w' => e = .returned (.bool (numberOk nf f i)) ∧ Below w.heap.size w w' := by
  obtain ⟨op, a, b, c, n⟩ := i
  obtain ⟨name, frame, first, count, params⟩ := f
  obtain ⟨⟨o1, o2⟩, _, _, _, ⟨n1, n2⟩⟩ := hi
  obtain ⟨⟨f1, f2⟩, ⟨f3, f4⟩, ⟨f5, f6⟩, _⟩ := hf
  simp only at *
  unfold codeV fnV insV
  simp only
  go_enter Try.func48, Try.ntmps48
  go_wp2
  all_goals go_ret
  all_goals refine ⟨?_, by repeat (first | exact Below.refl _ _ | apply ba)⟩
  all_goals first | (simp [numberOk, *]; done) | (simp [numberOk, *]; omega)
end Go.Proofs.Ytafhjpehkfcmjaa
