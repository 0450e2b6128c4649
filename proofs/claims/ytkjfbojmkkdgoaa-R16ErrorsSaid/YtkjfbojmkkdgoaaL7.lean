/- R16Words: every op, every two numbers. -/
import Derived.Test.YtkjfbojmkkdgoaaL6
set_option linter.unusedVariables false
set_option linter.unusedSimpArgs false
namespace Go.Proofs.Ytkjfbojmkkdgoaa
open Go.RowKit
theorem and_range (x : Int) (m : Nat) (hm : m < 4611686018427387904) : 0 ≤ bits .and .i64 x (m : Int) ∧ bits .and .i64 x (m : Int) ≤ (m : Int) := by
  have key : (BitVec.ofInt 64 x &&& BitVec.ofInt 64 (m : Int)).toNat ≤ m := by
    rw [BitVec.toNat_and]
    refine Nat.le_trans Nat.and_le_right ?_
    rw [BitVec.toNat_ofInt]
    omega
  have e : bits .and .i64 x (m : Int) = IntKind.i64.wrap ((BitVec.ofInt 64 x &&& BitVec.ofInt 64 (m : Int)).toNat : Nat) := rfl
  rw [e, IntKind.wrap_i64]
  omega
theorem r16words_c (w : World) (op a b to : Int) (ha : i64in a) (hb : i64in b) : Calls Try.prog 6 #[.int .i64 op, .int .i64 a, .int .i64 b, .int .i64 to] w fun e w' => e = .returned (.bool true) ∧ Below w.heap.size w w' := by
  obtain ⟨o0, o1⟩ := and_range op 15 (by decide)
  obtain ⟨t0, t1⟩ := and_range to 15 (by decide)
  obtain ⟨t, ht⟩ := Int.eq_ofNat_of_zero_le t0
  have htt : t < 16 := by omega
  have ho : bits .and .i64 op 15 = 0 ∨ bits .and .i64 op 15 = 1 ∨ bits .and .i64 op 15 = 2 ∨ bits .and .i64 op 15 = 3 ∨ bits .and .i64 op 15 = 4 ∨ bits .and .i64 op 15 = 5 ∨ bits .and .i64 op 15 = 6 ∨ bits .and .i64 op 15 = 7 ∨ bits .and .i64 op 15 = 8 ∨ bits .and .i64 op 15 = 9 ∨ bits .and .i64 op 15 = 10 ∨ bits .and .i64 op 15 = 11 ∨ bits .and .i64 op 15 = 12 ∨ bits .and .i64 op 15 = 13 ∨ bits .and .i64 op 15 = 14 ∨ bits .and .i64 op 15 = 15 := by
    have e : ((15 : Nat) : Int) = 15 := rfl
    rw [e] at o0 o1
    omega
  rcases ho with h | h | h | h | h | h | h | h | h | h | h | h | h | h | h | h
  · exact words_0 w op a b to ha hb h t ht htt
  · exact words_1 w op a b to ha hb h t ht htt
  · exact words_2 w op a b to ha hb h t ht htt
  · by_cases hs : b = 0
    · exact words_3_stuck w op a b to ha hb h t ht htt hs
    · exact words_3 w op a b to ha hb h t ht htt hs
  · by_cases hs : b = 0
    · exact words_4_stuck w op a b to ha hb h t ht htt hs
    · exact words_4 w op a b to ha hb h t ht htt hs
  · exact words_5 w op a b to ha hb h t ht htt
  · exact words_6 w op a b to ha hb h t ht htt
  · exact words_7 w op a b to ha hb h t ht htt
  · exact words_8 w op a b to ha hb h t ht htt
  · by_cases hs : b < 0
    · exact words_9_stuck w op a b to ha hb h t ht htt hs
    · exact words_9 w op a b to ha hb h t ht htt hs
  · by_cases hs : b < 0
    · exact words_10_stuck w op a b to ha hb h t ht htt hs
    · exact words_10 w op a b to ha hb h t ht htt hs
  · exact words_11 w op a b to ha hb h t ht htt
  · exact words_12 w op a b to ha hb h t ht htt
  · exact words_13 w op a b to ha hb h t ht htt
  · exact words_14 w op a b to ha hb h t ht htt
  · by_cases h0 : a = 0
    · exact words_15_0 w op a b to ha hb h t ht htt h0
    by_cases h1 : a = 1
    · exact words_15_1 w op a b to ha hb h t ht htt h1
    · exact words_15_stuck w op a b to ha hb h t ht htt (fun hh => hh.elim h0 h1)
end Go.Proofs.Ytkjfbojmkkdgoaa
