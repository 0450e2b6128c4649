/- The document's own Do; what a law asks of one call; alive. -/
import Derived.Test.YtlegpccgmgbekaaWalks3
set_option linter.unusedVariables false
namespace Go.Proofs.Ytlegpccgmgbekaa
open Go.RowKit
theorem rdo_2 (a b : Int) (a0 : -9223372036854775808 ≤ a) (a1 : a ≤ 9223372036854775807) (b0 : -9223372036854775808 ≤ b) (b1 : b ≤ 9223372036854775807) (w : World) : Calls Try.prog 42 #[.int .i64 2, .int .i64 a, .int .i64 b] w fun e w' => e = .returned (.tuple #[.int .i64 (wadd a b), .bool true]) ∧ Below w.heap.size w w' := by
  go_enter Try.func42, Try.ntmps42
  go_wp2_with (go_at_call 29; refine (radd_c a b _).mono ?_; rintro e w' ⟨rfl, rfl⟩)
  go_ret2
  exact ⟨rfl, Below.refl _ _⟩
theorem rdo_3 (a b : Int) (a0 : -9223372036854775808 ≤ a) (a1 : a ≤ 9223372036854775807) (b0 : -9223372036854775808 ≤ b) (b1 : b ≤ 9223372036854775807) (w : World) : Calls Try.prog 42 #[.int .i64 3, .int .i64 a, .int .i64 b] w fun e w' => e = .returned (.tuple #[.int .i64 (wsub a b), .bool true]) ∧ Below w.heap.size w w' := by
  go_enter Try.func42, Try.ntmps42
  go_wp2_with (go_at_call 30; refine (rsub_c a b _).mono ?_; rintro e w' ⟨rfl, rfl⟩)
  go_ret2
  exact ⟨rfl, Below.refl _ _⟩
theorem rdo_4 (a b : Int) (a0 : -9223372036854775808 ≤ a) (a1 : a ≤ 9223372036854775807) (b0 : -9223372036854775808 ≤ b) (b1 : b ≤ 9223372036854775807) (w : World) : Calls Try.prog 42 #[.int .i64 4, .int .i64 a, .int .i64 b] w fun e w' => e = .returned (.tuple #[.int .i64 (wmul a b), .bool true]) ∧ Below w.heap.size w w' := by
  go_enter Try.func42, Try.ntmps42
  go_wp2_with (go_at_call 31; refine (rmul_c a b _).mono ?_; rintro e w' ⟨rfl, rfl⟩)
  go_ret2
  exact ⟨rfl, Below.refl _ _⟩
theorem rdo_5 (a b : Int) (a0 : -9223372036854775808 ≤ a) (a1 : a ≤ 9223372036854775807) (b0 : -9223372036854775808 ≤ b) (b1 : b ≤ 9223372036854775807) (w : World) : Calls Try.prog 42 #[.int .i64 5, .int .i64 a, .int .i64 b] w fun e w' => e = .returned (.tuple #[.int .i64 (wdiv a b), .bool true]) ∧ Below w.heap.size w w' := by
  go_enter Try.func42, Try.ntmps42
  go_wp2_with (go_at_call 32; refine (rdiv_c a b a0 a1 b0 b1 _).mono ?_; rintro e w' ⟨rfl, rfl⟩)
  go_ret2
  exact ⟨rfl, Below.refl _ _⟩
theorem rdo_6 (a b : Int) (a0 : -9223372036854775808 ≤ a) (a1 : a ≤ 9223372036854775807) (b0 : -9223372036854775808 ≤ b) (b1 : b ≤ 9223372036854775807) (w : World) : Calls Try.prog 42 #[.int .i64 6, .int .i64 a, .int .i64 b] w fun e w' => e = .returned (.tuple #[.int .i64 (wrem a b), .bool true]) ∧ Below w.heap.size w w' := by
  go_enter Try.func42, Try.ntmps42
  go_wp2_with (go_at_call 33; refine (rrem_c a b a0 a1 b0 b1 _).mono ?_; rintro e w' ⟨rfl, rfl⟩)
  go_ret2
  exact ⟨rfl, Below.refl _ _⟩
theorem rdo_7 (a b : Int) (a0 : -9223372036854775808 ≤ a) (a1 : a ≤ 9223372036854775807) (b0 : -9223372036854775808 ≤ b) (b1 : b ≤ 9223372036854775807) (w : World) : Calls Try.prog 42 #[.int .i64 7, .int .i64 a, .int .i64 b] w fun e w' => e = .returned (.tuple #[.int .i64 (wand a b), .bool true]) ∧ Below w.heap.size w w' := by
  go_enter Try.func42, Try.ntmps42
  go_wp2_with (go_at_call 34; refine (rand_c a b _).mono ?_; rintro e w' ⟨rfl, HB⟩)
  go_ret2
  exact ⟨rfl, HB⟩
theorem rdo_8 (a b : Int) (a0 : -9223372036854775808 ≤ a) (a1 : a ≤ 9223372036854775807) (b0 : -9223372036854775808 ≤ b) (b1 : b ≤ 9223372036854775807) (w : World) : Calls Try.prog 42 #[.int .i64 8, .int .i64 a, .int .i64 b] w fun e w' => e = .returned (.tuple #[.int .i64 (wor a b), .bool true]) ∧ Below w.heap.size w w' := by
  go_enter Try.func42, Try.ntmps42
  go_wp2_with (go_at_call 35; refine (ror_c a b _).mono ?_; rintro e w' ⟨rfl, HB⟩)
  go_ret2
  exact ⟨rfl, HB⟩
theorem rdo_9 (a b : Int) (a0 : -9223372036854775808 ≤ a) (a1 : a ≤ 9223372036854775807) (b0 : -9223372036854775808 ≤ b) (b1 : b ≤ 9223372036854775807) (w : World) : Calls Try.prog 42 #[.int .i64 9, .int .i64 a, .int .i64 b] w fun e w' => e = .returned (.tuple #[.int .i64 (wxor a b), .bool true]) ∧ Below w.heap.size w w' := by
  go_enter Try.func42, Try.ntmps42
  go_wp2_with (go_at_call 36; refine (rxor_c a b _).mono ?_; rintro e w' ⟨rfl, HB⟩)
  go_ret2
  exact ⟨rfl, HB⟩
theorem rdo_10 (a b : Int) (a0 : -9223372036854775808 ≤ a) (a1 : a ≤ 9223372036854775807) (b0 : -9223372036854775808 ≤ b) (b1 : b ≤ 9223372036854775807) (w : World) : Calls Try.prog 42 #[.int .i64 10, .int .i64 a, .int .i64 b] w fun e w' => e = .returned (.tuple #[.int .i64 (wbic a b), .bool true]) ∧ Below w.heap.size w w' := by
  go_enter Try.func42, Try.ntmps42
  go_wp2_with (go_at_call 37; refine (rbic_c a b _).mono ?_; rintro e w' ⟨rfl, HB⟩)
  go_ret2
  exact ⟨rfl, HB⟩
theorem rdo_11 (a b : Int) (a0 : -9223372036854775808 ≤ a) (a1 : a ≤ 9223372036854775807) (b0 : -9223372036854775808 ≤ b) (b1 : b ≤ 9223372036854775807) (w : World) : Calls Try.prog 42 #[.int .i64 11, .int .i64 a, .int .i64 b] w fun e w' => e = .returned (.tuple #[.int .i64 (wshl a b), .bool true]) ∧ Below w.heap.size w w' := by
  go_enter Try.func42, Try.ntmps42
  go_wp2_with (go_at_call 38; refine (rshl_c a b a0 a1 _).mono ?_; rintro e w' ⟨rfl, rfl⟩)
  go_ret2
  exact ⟨rfl, Below.refl _ _⟩
theorem rdo_12 (a b : Int) (a0 : -9223372036854775808 ≤ a) (a1 : a ≤ 9223372036854775807) (b0 : -9223372036854775808 ≤ b) (b1 : b ≤ 9223372036854775807) (w : World) : Calls Try.prog 42 #[.int .i64 12, .int .i64 a, .int .i64 b] w fun e w' => e = .returned (.tuple #[.int .i64 (wshr a b), .bool true]) ∧ Below w.heap.size w w' := by
  go_enter Try.func42, Try.ntmps42
  go_wp2_with (go_at_call 39; refine (rshr_c a b a0 a1 _).mono ?_; rintro e w' ⟨rfl, rfl⟩)
  go_ret2
  exact ⟨rfl, Below.refl _ _⟩
theorem rdo_13 (a b : Int) (a0 : -9223372036854775808 ≤ a) (a1 : a ≤ 9223372036854775807) (b0 : -9223372036854775808 ≤ b) (b1 : b ≤ 9223372036854775807) (w : World) : Calls Try.prog 42 #[.int .i64 13, .int .i64 a, .int .i64 b] w fun e w' => e = .returned (.tuple #[.int .i64 (tr (a == b)), .bool true]) ∧ Below w.heap.size w w' := by
  go_enter Try.func42, Try.ntmps42
  go_wp2_with (go_at_call 46; refine (rtruth_c (a == b) _).mono ?_; rintro e w' ⟨rfl, rfl⟩)
  go_ret2
  exact ⟨rfl, Below.refl _ _⟩
theorem rdo_14 (a b : Int) (a0 : -9223372036854775808 ≤ a) (a1 : a ≤ 9223372036854775807) (b0 : -9223372036854775808 ≤ b) (b1 : b ≤ 9223372036854775807) (w : World) : Calls Try.prog 42 #[.int .i64 14, .int .i64 a, .int .i64 b] w fun e w' => e = .returned (.tuple #[.int .i64 (tr (a != b)), .bool true]) ∧ Below w.heap.size w w' := by
  go_enter Try.func42, Try.ntmps42
  go_wp2_with (go_at_call 46; refine (rtruth_c (a != b) _).mono ?_; rintro e w' ⟨rfl, rfl⟩)
  go_ret2
  exact ⟨rfl, Below.refl _ _⟩
theorem rdo_15 (a b : Int) (a0 : -9223372036854775808 ≤ a) (a1 : a ≤ 9223372036854775807) (b0 : -9223372036854775808 ≤ b) (b1 : b ≤ 9223372036854775807) (w : World) : Calls Try.prog 42 #[.int .i64 15, .int .i64 a, .int .i64 b] w fun e w' => e = .returned (.tuple #[.int .i64 (tr (decide (a < b))), .bool true]) ∧ Below w.heap.size w w' := by
  go_enter Try.func42, Try.ntmps42
  go_wp2_with (go_at_call 46; refine (rtruth_c (decide (a < b)) _).mono ?_; rintro e w' ⟨rfl, rfl⟩)
  go_ret2
  exact ⟨rfl, Below.refl _ _⟩
theorem rdo_16 (a b : Int) (a0 : -9223372036854775808 ≤ a) (a1 : a ≤ 9223372036854775807) (b0 : -9223372036854775808 ≤ b) (b1 : b ≤ 9223372036854775807) (w : World) : Calls Try.prog 42 #[.int .i64 16, .int .i64 a, .int .i64 b] w fun e w' => e = .returned (.tuple #[.int .i64 (tr (decide (a ≤ b))), .bool true]) ∧ Below w.heap.size w w' := by
  go_enter Try.func42, Try.ntmps42
  go_wp2_with (go_at_call 46; refine (rtruth_c (decide (a ≤ b)) _).mono ?_; rintro e w' ⟨rfl, rfl⟩)
  go_ret2
  exact ⟨rfl, Below.refl _ _⟩
theorem rdo_17 (a b : Int) (a0 : -9223372036854775808 ≤ a) (a1 : a ≤ 9223372036854775807) (b0 : -9223372036854775808 ≤ b) (b1 : b ≤ 9223372036854775807) (w : World) : Calls Try.prog 42 #[.int .i64 17, .int .i64 a, .int .i64 b] w fun e w' => e = .returned (.tuple #[.int .i64 (wneg a), .bool true]) ∧ Below w.heap.size w w' := by
  go_enter Try.func42, Try.ntmps42
  go_wp2_with (go_at_call 40; refine (rneg_c a _).mono ?_; rintro e w' ⟨rfl, rfl⟩)
  go_ret2
  exact ⟨rfl, Below.refl _ _⟩
theorem rdo_18 (a b : Int) (a0 : -9223372036854775808 ≤ a) (a1 : a ≤ 9223372036854775807) (b0 : -9223372036854775808 ≤ b) (b1 : b ≤ 9223372036854775807) (w : World) : Calls Try.prog 42 #[.int .i64 18, .int .i64 a, .int .i64 b] w fun e w' => e = .returned (.tuple #[.int .i64 (winv a), .bool true]) ∧ Below w.heap.size w w' := by
  go_enter Try.func42, Try.ntmps42
  go_wp2_with (go_at_call 41; refine (rinv_c a _).mono ?_; rintro e w' ⟨rfl, HB⟩)
  go_ret2
  exact ⟨rfl, HB⟩
theorem rdo_19 (a b : Int) (a0 : -9223372036854775808 ≤ a) (a1 : a ≤ 9223372036854775807) (b0 : -9223372036854775808 ≤ b) (b1 : b ≤ 9223372036854775807) (w : World) : Calls Try.prog 42 #[.int .i64 19, .int .i64 a, .int .i64 b] w fun e w' => e = .returned (.tuple #[.int .i64 (wsub 1 a), .bool true]) ∧ Below w.heap.size w w' := by
  go_enter Try.func42, Try.ntmps42
  go_wp2_with (go_at_call 30; refine (rsub_c 1 a _).mono ?_; rintro e w' ⟨rfl, rfl⟩)
  go_ret2
  exact ⟨rfl, Below.refl _ _⟩
theorem rdo_none (op a b : Int) (h : op < 2 ∨ 19 < op) (w : World) : Calls Try.prog 42 #[.int .i64 op, .int .i64 a, .int .i64 b] w fun e w' => e = .returned (.tuple #[.int .i64 0, .bool false]) ∧ Below w.heap.size w w' := by
  rcases h with h | h
  all_goals
    go_enter Try.func42, Try.ntmps42
    go_wp2_with fail
    go_ret2
    exact ⟨rfl, Below.refl _ _⟩
theorem rdo_c (op a b : Int) (a0 : -9223372036854775808 ≤ a) (a1 : a ≤ 9223372036854775807) (b0 : -9223372036854775808 ≤ b) (b1 : b ≤ 9223372036854775807) (w : World) : Calls Try.prog 42 #[.int .i64 op, .int .i64 a, .int .i64 b] w fun e w' => e = .returned (.tuple #[.int .i64 (wdo op a b), .bool (isOp op)]) ∧ Below w.heap.size w w' := by
  by_cases h1 : 2 ≤ op ∧ op ≤ 19
  · have h3 : op = 2 ∨ op = 3 ∨ op = 4 ∨ op = 5 ∨ op = 6 ∨ op = 7 ∨ op = 8 ∨ op = 9 ∨ op = 10 ∨ op = 11 ∨ op = 12 ∨ op = 13 ∨ op = 14 ∨ op = 15 ∨ op = 16 ∨ op = 17 ∨ op = 18 ∨ op = 19 := by omega
    rcases h3 with rfl | rfl | rfl | rfl | rfl | rfl | rfl | rfl | rfl | rfl | rfl | rfl | rfl | rfl | rfl | rfl | rfl | rfl
    · exact rdo_2 a b a0 a1 b0 b1 w
    · exact rdo_3 a b a0 a1 b0 b1 w
    · exact rdo_4 a b a0 a1 b0 b1 w
    · exact rdo_5 a b a0 a1 b0 b1 w
    · exact rdo_6 a b a0 a1 b0 b1 w
    · exact rdo_7 a b a0 a1 b0 b1 w
    · exact rdo_8 a b a0 a1 b0 b1 w
    · exact rdo_9 a b a0 a1 b0 b1 w
    · exact rdo_10 a b a0 a1 b0 b1 w
    · exact rdo_11 a b a0 a1 b0 b1 w
    · exact rdo_12 a b a0 a1 b0 b1 w
    · exact rdo_13 a b a0 a1 b0 b1 w
    · exact rdo_14 a b a0 a1 b0 b1 w
    · exact rdo_15 a b a0 a1 b0 b1 w
    · exact rdo_16 a b a0 a1 b0 b1 w
    · exact rdo_17 a b a0 a1 b0 b1 w
    · exact rdo_18 a b a0 a1 b0 b1 w
    · exact rdo_19 a b a0 a1 b0 b1 w
  · refine (rdo_none op a b (by omega) w).mono fun e w' h => ?_
    obtain ⟨rfl, hb⟩ := h
    exact ⟨by rw [wdo_none op a b h1, isOp_none op h1], hb⟩
theorem one_2 (op a b : Int) (a0 : -9223372036854775808 ≤ a) (a1 : a ≤ 9223372036854775807) (b0 : -9223372036854775808 ≤ b) (b1 : b ≤ 9223372036854775807) (w : World) : Calls Try.prog 13 #[.int .i64 2, .int .i64 op, .int .i64 a, .int .i64 b] w fun e w' => e = .returned (.bool true) ∧ Below w.heap.size w w' := by
  go_enter Try.func13, Try.ntmps13
  go_wp2_with (first | (go_at_call 14; refine (add_c a b _).mono ?_; rintro e w' ⟨rfl, rfl⟩) | (go_at_call 29; refine (radd_c a b _).mono ?_; rintro e w' ⟨rfl, rfl⟩))
  go_ret
  exact ⟨by simp, Below.refl _ _⟩
theorem one_3 (op a b : Int) (a0 : -9223372036854775808 ≤ a) (a1 : a ≤ 9223372036854775807) (b0 : -9223372036854775808 ≤ b) (b1 : b ≤ 9223372036854775807) (w : World) : Calls Try.prog 13 #[.int .i64 3, .int .i64 op, .int .i64 a, .int .i64 b] w fun e w' => e = .returned (.bool true) ∧ Below w.heap.size w w' := by
  go_enter Try.func13, Try.ntmps13
  go_wp2_with (first | (go_at_call 16; refine (sub_c a b _).mono ?_; rintro e w' ⟨rfl, rfl⟩) | (go_at_call 30; refine (rsub_c a b _).mono ?_; rintro e w' ⟨rfl, rfl⟩))
  go_ret
  exact ⟨by simp, Below.refl _ _⟩
theorem one_4 (op a b : Int) (a0 : -9223372036854775808 ≤ a) (a1 : a ≤ 9223372036854775807) (b0 : -9223372036854775808 ≤ b) (b1 : b ≤ 9223372036854775807) (w : World) : Calls Try.prog 13 #[.int .i64 4, .int .i64 op, .int .i64 a, .int .i64 b] w fun e w' => e = .returned (.bool true) ∧ Below w.heap.size w w' := by
  go_enter Try.func13, Try.ntmps13
  go_wp2_with (first | (go_at_call 15; refine (mul_c a b _).mono ?_; rintro e w' ⟨rfl, rfl⟩) | (go_at_call 31; refine (rmul_c a b _).mono ?_; rintro e w' ⟨rfl, rfl⟩))
  go_ret
  exact ⟨by simp, Below.refl _ _⟩
theorem one_5 (op a b : Int) (a0 : -9223372036854775808 ≤ a) (a1 : a ≤ 9223372036854775807) (b0 : -9223372036854775808 ≤ b) (b1 : b ≤ 9223372036854775807) (w : World) : Calls Try.prog 13 #[.int .i64 5, .int .i64 op, .int .i64 a, .int .i64 b] w fun e w' => e = .returned (.bool true) ∧ Below w.heap.size w w' := by
  go_enter Try.func13, Try.ntmps13
  go_wp2_with (first | (go_at_call 18; refine (div_c a b _).mono ?_; rintro e w' ⟨rfl, rfl⟩) | (go_at_call 32; refine (rdiv_c a b a0 a1 b0 b1 _).mono ?_; rintro e w' ⟨rfl, rfl⟩))
  go_ret
  exact ⟨by simp, Below.refl _ _⟩
theorem one_6 (op a b : Int) (a0 : -9223372036854775808 ≤ a) (a1 : a ≤ 9223372036854775807) (b0 : -9223372036854775808 ≤ b) (b1 : b ≤ 9223372036854775807) (w : World) : Calls Try.prog 13 #[.int .i64 6, .int .i64 op, .int .i64 a, .int .i64 b] w fun e w' => e = .returned (.bool true) ∧ Below w.heap.size w w' := by
  go_enter Try.func13, Try.ntmps13
  go_wp2_with (first | (go_at_call 19; refine (rem_c a b _).mono ?_; rintro e w' ⟨rfl, rfl⟩) | (go_at_call 33; refine (rrem_c a b a0 a1 b0 b1 _).mono ?_; rintro e w' ⟨rfl, rfl⟩))
  go_ret
  exact ⟨by simp, Below.refl _ _⟩
theorem one_7 (op a b : Int) (a0 : -9223372036854775808 ≤ a) (a1 : a ≤ 9223372036854775807) (b0 : -9223372036854775808 ≤ b) (b1 : b ≤ 9223372036854775807) (w : World) : Calls Try.prog 13 #[.int .i64 7, .int .i64 op, .int .i64 a, .int .i64 b] w fun e w' => e = .returned (.bool true) ∧ Below w.heap.size w w' := by
  go_enter Try.func13, Try.ntmps13
  go_wp2_with (first | (go_at_call 20; refine (and_c a b _).mono ?_; rintro e w' ⟨rfl, rfl⟩) | (go_at_call 34; refine (rand_c a b _).mono ?_; rintro e w' ⟨rfl, HB⟩))
  go_ret
  exact ⟨by simp, HB⟩
theorem one_8 (op a b : Int) (a0 : -9223372036854775808 ≤ a) (a1 : a ≤ 9223372036854775807) (b0 : -9223372036854775808 ≤ b) (b1 : b ≤ 9223372036854775807) (w : World) : Calls Try.prog 13 #[.int .i64 8, .int .i64 op, .int .i64 a, .int .i64 b] w fun e w' => e = .returned (.bool true) ∧ Below w.heap.size w w' := by
  go_enter Try.func13, Try.ntmps13
  go_wp2_with (first | (go_at_call 21; refine (or_c a b _).mono ?_; rintro e w' ⟨rfl, rfl⟩) | (go_at_call 35; refine (ror_c a b _).mono ?_; rintro e w' ⟨rfl, HB⟩))
  go_ret
  exact ⟨by simp, HB⟩
theorem one_9 (op a b : Int) (a0 : -9223372036854775808 ≤ a) (a1 : a ≤ 9223372036854775807) (b0 : -9223372036854775808 ≤ b) (b1 : b ≤ 9223372036854775807) (w : World) : Calls Try.prog 13 #[.int .i64 9, .int .i64 op, .int .i64 a, .int .i64 b] w fun e w' => e = .returned (.bool true) ∧ Below w.heap.size w w' := by
  go_enter Try.func13, Try.ntmps13
  go_wp2_with (first | (go_at_call 22; refine (xor_c a b _).mono ?_; rintro e w' ⟨rfl, rfl⟩) | (go_at_call 36; refine (rxor_c a b _).mono ?_; rintro e w' ⟨rfl, HB⟩))
  go_ret
  exact ⟨by simp, HB⟩
theorem one_10 (op a b : Int) (a0 : -9223372036854775808 ≤ a) (a1 : a ≤ 9223372036854775807) (b0 : -9223372036854775808 ≤ b) (b1 : b ≤ 9223372036854775807) (w : World) : Calls Try.prog 13 #[.int .i64 10, .int .i64 op, .int .i64 a, .int .i64 b] w fun e w' => e = .returned (.bool true) ∧ Below w.heap.size w w' := by
  go_enter Try.func13, Try.ntmps13
  go_wp2_with (first | (go_at_call 24; refine (bic_c a b _).mono ?_; rintro e w' ⟨rfl, rfl⟩) | (go_at_call 37; refine (rbic_c a b _).mono ?_; rintro e w' ⟨rfl, HB⟩))
  go_ret
  exact ⟨by simp, HB⟩
theorem one_11 (op a b : Int) (a0 : -9223372036854775808 ≤ a) (a1 : a ≤ 9223372036854775807) (b0 : -9223372036854775808 ≤ b) (b1 : b ≤ 9223372036854775807) (w : World) : Calls Try.prog 13 #[.int .i64 11, .int .i64 op, .int .i64 a, .int .i64 b] w fun e w' => e = .returned (.bool true) ∧ Below w.heap.size w w' := by
  go_enter Try.func13, Try.ntmps13
  go_wp2_with (first | (go_at_call 25; refine (shl_c a b _).mono ?_; rintro e w' ⟨rfl, rfl⟩) | (go_at_call 38; refine (rshl_c a b a0 a1 _).mono ?_; rintro e w' ⟨rfl, rfl⟩))
  go_ret
  exact ⟨by simp, Below.refl _ _⟩
theorem one_12 (op a b : Int) (a0 : -9223372036854775808 ≤ a) (a1 : a ≤ 9223372036854775807) (b0 : -9223372036854775808 ≤ b) (b1 : b ≤ 9223372036854775807) (w : World) : Calls Try.prog 13 #[.int .i64 12, .int .i64 op, .int .i64 a, .int .i64 b] w fun e w' => e = .returned (.bool true) ∧ Below w.heap.size w w' := by
  go_enter Try.func13, Try.ntmps13
  go_wp2_with (first | (go_at_call 26; refine (shr_c a b _).mono ?_; rintro e w' ⟨rfl, rfl⟩) | (go_at_call 39; refine (rshr_c a b a0 a1 _).mono ?_; rintro e w' ⟨rfl, rfl⟩))
  go_ret
  exact ⟨by simp, Below.refl _ _⟩
theorem one_13 (op a b : Int) (a0 : -9223372036854775808 ≤ a) (a1 : a ≤ 9223372036854775807) (b0 : -9223372036854775808 ≤ b) (b1 : b ≤ 9223372036854775807) (w : World) : Calls Try.prog 13 #[.int .i64 13, .int .i64 op, .int .i64 a, .int .i64 b] w fun e w' => e = .returned (.bool true) ∧ Below w.heap.size w w' := by
  go_enter Try.func13, Try.ntmps13
  go_wp2_with (first | (go_at_call 17; refine (neg_c a _).mono ?_; rintro e w' ⟨rfl, rfl⟩) | (go_at_call 40; refine (rneg_c a _).mono ?_; rintro e w' ⟨rfl, rfl⟩))
  go_ret
  exact ⟨by simp, Below.refl _ _⟩
theorem one_14 (op a b : Int) (a0 : -9223372036854775808 ≤ a) (a1 : a ≤ 9223372036854775807) (b0 : -9223372036854775808 ≤ b) (b1 : b ≤ 9223372036854775807) (w : World) : Calls Try.prog 13 #[.int .i64 14, .int .i64 op, .int .i64 a, .int .i64 b] w fun e w' => e = .returned (.bool true) ∧ Below w.heap.size w w' := by
  go_enter Try.func13, Try.ntmps13
  go_wp2_with (first | (go_at_call 23; refine (inv_c a _).mono ?_; rintro e w' ⟨rfl, rfl⟩) | (go_at_call 41; refine (rinv_c a _).mono ?_; rintro e w' ⟨rfl, HB⟩))
  go_ret
  exact ⟨by simp, HB⟩
theorem one_do (k op a b : Int) (hk : k < 2 ∨ 14 < k) (a0 : -9223372036854775808 ≤ a) (a1 : a ≤ 9223372036854775807) (b0 : -9223372036854775808 ≤ b) (b1 : b ≤ 9223372036854775807) (w : World) : Calls Try.prog 13 #[.int .i64 k, .int .i64 op, .int .i64 a, .int .i64 b] w fun e w' => e = .returned (.bool true) ∧ Below w.heap.size w w' := by
  rcases hk with h | h
  all_goals
    go_enter Try.func13, Try.ntmps13
    go_wp2_with (first | (go_at_call 28; refine (do_c op a b _).mono ?_; rintro e w1 ⟨rfl, HB⟩) | (go_at_call 42; refine (rdo_c op a b a0 a1 b0 b1 _).mono ?_; rintro e w2 ⟨rfl, HB2⟩))
    go_ret
    exact ⟨by simp, HB.trans (HB2.mono HB.size)⟩
/-- ONE CALL, WHATEVER KIND. -/
theorem one_c (k op a b : Int) (a0 : -9223372036854775808 ≤ a) (a1 : a ≤ 9223372036854775807) (b0 : -9223372036854775808 ≤ b) (b1 : b ≤ 9223372036854775807) (w : World) : Calls Try.prog 13 #[.int .i64 k, .int .i64 op, .int .i64 a, .int .i64 b] w fun e w' => e = .returned (.bool true) ∧ Below w.heap.size w w' := by
  by_cases hk : k < 2 ∨ 14 < k
  · exact one_do k op a b hk a0 a1 b0 b1 w
  · have h3 : k = 2 ∨ k = 3 ∨ k = 4 ∨ k = 5 ∨ k = 6 ∨ k = 7 ∨ k = 8 ∨ k = 9 ∨ k = 10 ∨ k = 11 ∨ k = 12 ∨ k = 13 ∨ k = 14 := by omega
    rcases h3 with rfl | rfl | rfl | rfl | rfl | rfl | rfl | rfl | rfl | rfl | rfl | rfl | rfl
    · exact one_2 op a b a0 a1 b0 b1 w
    · exact one_3 op a b a0 a1 b0 b1 w
    · exact one_4 op a b a0 a1 b0 b1 w
    · exact one_5 op a b a0 a1 b0 b1 w
    · exact one_6 op a b a0 a1 b0 b1 w
    · exact one_7 op a b a0 a1 b0 b1 w
    · exact one_8 op a b a0 a1 b0 b1 w
    · exact one_9 op a b a0 a1 b0 b1 w
    · exact one_10 op a b a0 a1 b0 b1 w
    · exact one_11 op a b a0 a1 b0 b1 w
    · exact one_12 op a b a0 a1 b0 b1 w
    · exact one_13 op a b a0 a1 b0 b1 w
    · exact one_14 op a b a0 a1 b0 b1 w
theorem alive_c (w : World) : Calls Try.prog 12 #[] w fun e w' => e = .returned (.bool true) ∧ Below w.heap.size w w' := by
  have e1 : wadd 2 3 = 5 := by rw [wadd, w64]; decide
  have e2 : winv 0 = -1 := by decide
  have e3 : wneg 1 = -1 := by rw [wneg, w64]; decide
  have d1 : ∀ w, Calls Try.prog 28 #[.int .i64 2, .int .i64 2, .int .i64 3] w fun e w' => e = .returned (.tuple #[.int .i64 5, .bool true]) ∧ Below w.heap.size w w' := fun w => by have h := do_2 2 3 w; rw [e1] at h; exact h
  have d2 : ∀ w, Calls Try.prog 28 #[.int .i64 17, .int .i64 1, .int .i64 0] w fun e w' => e = .returned (.tuple #[.int .i64 (-1), .bool true]) ∧ Below w.heap.size w w' := fun w => by have h := do_17 1 0 w; rw [e3] at h; exact h
  have d3 : ∀ w, Calls Try.prog 14 #[.int .i64 2, .int .i64 3] w fun e w' => e = .returned (.int .i64 5) ∧ w = w' := fun w => by have h := add_c 2 3 w; rw [e1] at h; exact h
  have d4 : ∀ w, Calls Try.prog 23 #[.int .i64 0] w fun e w' => e = .returned (.int .i64 (-1)) ∧ w = w' := fun w => by have h := inv_c 0 w; rw [e2] at h; exact h
  have D1 := Lib.hid d1
  have D2 := Lib.hid d2
  have D3 := Lib.hid d3
  have D4 := Lib.hid d4
  clear e1 e2 e3 d1 d2 d3 d4
  go_enter Try.func12, Try.ntmps12
  go_wp2_with fail
  refine (D1.out _).mono ?_
  rintro e w1 ⟨rfl, HB⟩
  go_wp2_with fail
  refine (D2.out _).mono ?_
  rintro e w2 ⟨rfl, HB2⟩
  go_wp2_with (first | (go_at_call 14; refine (D3.out _).mono ?_; rintro e w' ⟨rfl, rfl⟩) | (go_at_call 23; refine (D4.out _).mono ?_; rintro e w' ⟨rfl, rfl⟩))
  go_ret
  exact ⟨rfl, HB.trans (HB2.mono HB.size)⟩
end Go.Proofs.Ytlegpccgmgbekaa
