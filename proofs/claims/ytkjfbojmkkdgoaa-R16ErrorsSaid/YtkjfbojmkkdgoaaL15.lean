/- R16Errors, as a plain thing: the sample over zeros; what is refused. -/
import Derived.Test.YtkjfbojmkkdgoaaL14
set_option linter.unusedVariables false
set_option linter.unusedSimpArgs false
namespace Go.Proofs.Ytkjfbojmkkdgoaa
open Go.RowKit
/-- The stack is too small. -/
theorem err_small (sl hl : Int) (xs : List Int) (h : sl < 3) (n : Nat) : newQ (sampleK 0 sl hl) xs = (q00 xs).fins 2 7 0 ∧ runN (sampleK 0 sl hl) n (newQ (sampleK 0 sl hl) xs) = (q00 xs).fins 2 7 0 ∧ madeN (sampleK 0 sl hl) n (newQ (sampleK 0 sl hl) xs) = 0 := by
  have e : newQ (sampleK 0 sl hl) xs = (q00 xs).fins 2 7 0 := if_pos h
  have g : goes (sampleK 0 sl hl) ((q00 xs).fins 2 7 0) = false := rfl
  rw [e]
  exact ⟨rfl, runN_rest _ _ g n, madeN_no g n⟩
/-- Two steps, and the second one ends it. -/
theorem err_runs (sl hl : Int) (r : List Int) (h : ¬ sl < 3) (n : Nat) : ∃ q0 q2, newQ (sampleK 0 sl hl) (0 :: r) = q0 ∧ runN (sampleK 0 sl hl) (n + 2) q0 = q2 ∧ madeN (sampleK 0 sl hl) (n + 2) q0 = 2 ∧
    q0.fin = 0 ∧ q0.kind = 0 ∧ q0.val = 0 ∧ q0.steps = 0 ∧ q0.hp.tk = 0 ∧ q0.depth = 1 ∧ q0.ev = [] ∧ q2.fin = 2 ∧ q2.kind = 1 ∧ q2.val = 0 ∧ q2.steps = 2 ∧ q2.hp.tk = 0 ∧ q2.depth = 1 ∧ q2.ev = [] := by
  have e : newQ (sampleK 0 sl hl) (0 :: r) = (q00 (0 :: r)).begin (sampleK 0 sl hl) 0 0 (-1) (-1) := if_neg h
  have g0 : goes (sampleK 0 sl hl) ((q00 (0 :: r)).begin (sampleK 0 sl hl) 0 0 (-1) (-1)) = true := rfl
  have g1 : goes (sampleK 0 sl hl) (next (sampleK 0 sl hl) ((q00 (0 :: r)).begin (sampleK 0 sl hl) 0 0 (-1) (-1))) = true := rfl
  have g2 : goes (sampleK 0 sl hl) (next (sampleK 0 sl hl) (next (sampleK 0 sl hl) ((q00 (0 :: r)).begin (sampleK 0 sl hl) 0 0 (-1) (-1)))) = false := rfl
  refine ⟨_, _, e, rfl, ?_, rfl, rfl, rfl, rfl, rfl, rfl, rfl, ?_⟩
  · rw [show n + 2 = (n + 1) + 1 from rfl, madeN_succ _ g0, madeN_succ _ g1, madeN_no g2]
  · rw [show n + 2 = (n + 1) + 1 from rfl, runN_succ _ _ _ g0, runN_succ _ _ _ g1, runN_rest _ _ g2]
    exact ⟨rfl, rfl, rfl, rfl, rfl, rfl, rfl⟩
def errBad (sl hl : Int) : Prop := sl < 0 ∨ 1099511627776 < sl ∨ hl < 0 ∨ 1099511627776 < hl
instance (sl hl : Int) : Decidable (errBad sl hl) := by unfold errBad; infer_instance
def zeros (n : Nat) : List Int := List.replicate n 0
theorem zeros_length (n : Nat) : (zeros n).length = n := List.length_replicate
theorem zeros_in (n : Nat) : ∀ x ∈ zeros n, i64in x := fun x h => by rw [List.eq_of_mem_replicate h]; exact in_0
end Go.Proofs.Ytkjfbojmkkdgoaa
