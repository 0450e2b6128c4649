/- R16Words, as a plain thing: a program of five instructions. -/
import Derived.Test.YtkjfbojmkkdgoaaL4
set_option linter.unusedVariables false
set_option linter.unusedSimpArgs false
namespace Go.Proofs.Ytkjfbojmkkdgoaa
open Go.RowKit
def wordsL5 (op a b c to : Int) : List Ins := [⟨1, 3, 0, 0, a⟩, ⟨1, 4, 0, 0, b⟩, ⟨op, to, 3, c, 0⟩, ⟨37, to, 0, 0, 0⟩, ⟨27, 0, 0, 0, 0⟩]
def wordsK (op a b c to : Int) : MK := { ni := 5, X := insOf (wordsL5 op a b c to), nf := 1, Fs := mainF 2 5, mn := 0, sl := 2, hl := 0 }
theorem words_in (op a b c to : Int) (ho : i64in op) (ha : i64in a) (hb : i64in b) (hc : i64in c) (ht : i64in to) : ∀ i, i < 5 → InsIn (insOf (wordsL5 op a b c to) i) := by
  have h0 := in_0
  intro i hi
  have h : i = 0 ∨ i = 1 ∨ i = 2 ∨ i = 3 ∨ i = 4 := by omega
  rcases h with rfl | rfl | rfl | rfl | rfl
  · exact ⟨in_1, (⟨by decide, by decide⟩ : i64in 3), h0, h0, ha⟩
  · exact ⟨in_1, (⟨by decide, by decide⟩ : i64in 4), h0, h0, hb⟩
  · exact ⟨ho, ht, (⟨by decide, by decide⟩ : i64in 3), hc, h0⟩
  · exact ⟨(⟨by decide, by decide⟩ : i64in 37), ht, h0, h0, h0⟩
  · exact ⟨(⟨by decide, by decide⟩ : i64in 27), h0, h0, h0, h0⟩
def W2 (op a b c to : Int) : MQ := ((((newQ (wordsK op a b c to) []).tick.reg 3 a).tick.reg 4 b))
theorem words_q0 (op a b c to : Int) : newQ (wordsK op a b c to) [] = (q00 []).begin (wordsK op a b c to) 0 0 (-1) (-1) := rfl
theorem words_run2 (op a b c to : Int) (n : Nat) : runN (wordsK op a b c to) (n + 2) (newQ (wordsK op a b c to) []) = runN (wordsK op a b c to) n (W2 op a b c to) := by
  have g0 : goes (wordsK op a b c to) (newQ (wordsK op a b c to) []) = true := rfl
  have n0 : next (wordsK op a b c to) (newQ (wordsK op a b c to) []) = (newQ (wordsK op a b c to) []).tick.reg 3 a := rfl
  have g1 : goes (wordsK op a b c to) ((newQ (wordsK op a b c to) []).tick.reg 3 a) = true := rfl
  have n1 : next (wordsK op a b c to) ((newQ (wordsK op a b c to) []).tick.reg 3 a) = W2 op a b c to := rfl
  rw [runN_succ _ _ _ g0, n0, runN_succ _ _ _ g1, n1]
theorem W2_goes (op a b c to : Int) : goes (wordsK op a b c to) (W2 op a b c to) = true := rfl
theorem W2_next (op a b c to : Int) : next (wordsK op a b c to) (W2 op a b c to) = act (wordsK op a b c to) (W2 op a b c to).tick ⟨op, to, 3, c, 0⟩ := rfl
theorem W2_a (op a b c to : Int) : (W2 op a b c to).tick.regs 3 = a := rfl
theorem W2_b (op a b c to : Int) : (W2 op a b c to).tick.regs 4 = b := rfl
/-- Stuck at the third. -/
theorem words_stuck (op a b c to k : Int) (h : act (wordsK op a b c to) (W2 op a b c to).tick ⟨op, to, 3, c, 0⟩ = (W2 op a b c to).tick.fins 3 k 0) : runN (wordsK op a b c to) 9 (newQ (wordsK op a b c to) []) = (W2 op a b c to).tick.fins 3 k 0 := by
  rw [words_run2 op a b c to 7, runN_succ _ 6 _ (W2_goes op a b c to), W2_next, h]
  exact runN_rest _ _ rfl 6
theorem words_did (op a b c : Int) (to : Nat) (v : Int) (h : act (wordsK op a b c to) (W2 op a b c to).tick ⟨op, to, 3, c, 0⟩ = (W2 op a b c to).tick.reg to v) :
    (runN (wordsK op a b c to) 9 (newQ (wordsK op a b c to) [])).fin = 1 ∧ (runN (wordsK op a b c to) 9 (newQ (wordsK op a b c to) [])).steps = 5 ∧ (runN (wordsK op a b c to) 9 (newQ (wordsK op a b c to) [])).ev = [(1, v)] := by
  rw [words_run2 op a b c to 7, runN_succ _ 6 _ (W2_goes op a b c to), W2_next, h]
  have g3 : goes (wordsK op a b c to) ((W2 op a b c to).tick.reg to v) = true := rfl
  have n3 : next (wordsK op a b c to) ((W2 op a b c to).tick.reg to v) = { ((W2 op a b c to).tick.reg to v).tick with ev := [(1, v)] } := by
    show act _ _ ⟨37, (to : Int), 0, 0, 0⟩ = _
    have e : ((W2 op a b c to).tick.reg to v).tick.regs (to : Int) = v := if_pos rfl
    unfold act
    simp only [e]
    rfl
  rw [runN_succ _ 5 _ g3, n3]
  have g4 : goes (wordsK op a b c to) { ((W2 op a b c to).tick.reg to v).tick with ev := [(1, v)] } = true := rfl
  rw [runN_succ _ 4 _ g4]
  have n4 : next (wordsK op a b c to) { ((W2 op a b c to).tick.reg to v).tick with ev := [(1, v)] } = { ({ ((W2 op a b c to).tick.reg to v).tick with ev := [(1, v)] } : MQ).tick with cl := [] }.fins 1 0 0 := rfl
  rw [n4, runN_rest _ _ rfl 4]
  exact ⟨rfl, rfl, rfl⟩
theorem words_code (op a b c to : Int) (h : (3 ≤ op ∧ op ≤ 17 ∧ c = 4) ∨ (op = 20 ∧ c = 0)) (h0 : 0 ≤ to) (h1 : to < 16) : CodeOk 5 (insOf (wordsL5 op a b c to)) 1 (mainF 2 5) 0 := by
  refine code_one (wordsL5 op a b c to) 2 (by decide) (by decide) (by show 1 ≤ 5; decide) (fun j hj => ?_) (by kernel_rfl)
  have hj2 : j = 0 ∨ j = 1 ∨ j = 2 ∨ j = 3 ∨ j = 4 := by have h2 : j < 5 := hj; omega
  have ht : to = 0 ∨ to = 1 ∨ to = 2 ∨ to = 3 ∨ to = 4 ∨ to = 5 ∨ to = 6 ∨ to = 7 ∨ to = 8 ∨ to = 9 ∨ to = 10 ∨ to = 11 ∨ to = 12 ∨ to = 13 ∨ to = 14 ∨ to = 15 := by omega
  rcases hj2 with rfl | rfl | rfl | rfl | rfl
  · show insOk _ _ _ = true; kernel_rfl
  · show insOk _ _ _ = true; kernel_rfl
  · have ho : op = 3 ∨ op = 4 ∨ op = 5 ∨ op = 6 ∨ op = 7 ∨ op = 8 ∨ op = 9 ∨ op = 10 ∨ op = 11 ∨ op = 12 ∨ op = 13 ∨ op = 14 ∨ op = 15 ∨ op = 16 ∨ op = 17 ∨ op = 20 := by omega
    have k : ∀ (o c2 : Int), insOk 1 (mainF 2 5 0) ⟨o, 0, 3, c2, 0⟩ = true → insOk 1 (mainF 2 5 0) ⟨o, 1, 3, c2, 0⟩ = true → True := fun _ _ _ _ => trivial
    rcases h with ⟨h2, h3, rfl⟩ | ⟨rfl, rfl⟩
    · rcases ho with rfl | rfl | rfl | rfl | rfl | rfl | rfl | rfl | rfl | rfl | rfl | rfl | rfl | rfl | rfl | rfl
      all_goals first | (exfalso; omega) | (rcases ht with rfl | rfl | rfl | rfl | rfl | rfl | rfl | rfl | rfl | rfl | rfl | rfl | rfl | rfl | rfl | rfl <;> (show insOk _ _ _ = true; kernel_rfl))
    · rcases ht with rfl | rfl | rfl | rfl | rfl | rfl | rfl | rfl | rfl | rfl | rfl | rfl | rfl | rfl | rfl | rfl <;> (show insOk _ _ _ = true; kernel_rfl)
  · rcases ht with rfl | rfl | rfl | rfl | rfl | rfl | rfl | rfl | rfl | rfl | rfl | rfl | rfl | rfl | rfl | rfl <;> (show insOk _ _ _ = true; kernel_rfl)
  · show insOk _ _ _ = true; kernel_rfl
end Go.Proofs.Ytkjfbojmkkdgoaa
