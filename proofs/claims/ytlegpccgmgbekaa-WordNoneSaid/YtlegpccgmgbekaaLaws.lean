/- The walks of the laws on words: each returns true, whatever the numbers, and leaves what was there as it was. -/
import Derived.Test.YtlegpccgmgbekaaWalks4
import Derived.Test.YtlegpccgmgbekaaPlain4
set_option linter.unusedVariables false
namespace Go.Proofs.Ytlegpccgmgbekaa
open Go.RowKit
theorem eqT {a b : Int} (h : a = b) : (a == b) = true := beq_iff_eq.2 h
theorem eqF {a b : Int} (h : a ≠ b) : (a == b) = false := beq_eq_false_iff_ne.2 h
theorem neF {a b : Int} (h : a = b) : (a != b) = false := bne_eq_false_iff_eq.2 h
theorem exact_c (a b : Int) (a0 : -9223372036854775808 ≤ a) (a1 : a ≤ 9223372036854775807) (b0 : -9223372036854775808 ≤ b) (b1 : b ≤ 9223372036854775807) (w : World) : Calls Try.prog 3 #[.int .i64 a, .int .i64 b] w fun e w' => e = .returned (.bool true) ∧ Below w.heap.size w w' := by
  go_enter Try.func3, Try.ntmps3
  go_wp2_with (go_at_call 12; refine (alive_c _).mono ?_; rintro e w1 ⟨rfl, HB⟩)
  go_loopw [5, 6] (fun x i wr => ∃ k : Nat, k ≤ 13 ∧ i = .int .i64 ((k : Int) + 2) ∧ x = .bool true ∧ Below w.heap.size w wr) (fun _ i _ => 15 - (intOf i).toNat)
  case atStart => exact ⟨0, by omega, rfl, rfl, HB⟩
  case round =>
    obtain ⟨k, hk, rfl, rfl, HR⟩ := hrel
    by_cases h : k < 13
    · go_wp2_with (go_at_call 13; refine (one_c _ 0 a b a0 a1 b0 b1 _).mono ?_; rintro e w2 ⟨rfl, HB2⟩)
      go_roundw
      case rel => exact ⟨k + 1, by omega, by go_num, rfl, HR.trans (HB2.mono HR.size)⟩
      case measure => simp [intOf]; omega
    · go_wp2_with fail
      go_ret
      exact ⟨rfl, HR⟩
theorem dolaw_c (op a b : Int) (a0 : -9223372036854775808 ≤ a) (a1 : a ≤ 9223372036854775807) (b0 : -9223372036854775808 ≤ b) (b1 : b ≤ 9223372036854775807) (w : World) : Calls Try.prog 4 #[.int .i64 op, .int .i64 a, .int .i64 b] w fun e w' => e = .returned (.bool true) ∧ Below w.heap.size w w' := by
  go_enter Try.func4, Try.ntmps4
  go_wp2_with (first | (go_at_call 12; refine (alive_c _).mono ?_; rintro e w1 ⟨rfl, HB⟩) | (go_at_call 13; refine (one_c 0 op a b a0 a1 b0 b1 _).mono ?_; rintro e w2 ⟨rfl, HB2⟩))
  go_ret
  exact ⟨rfl, HB.trans (HB2.mono HB.size)⟩
theorem sums_c (a b c : Int) (a0 : -9223372036854775808 ≤ a) (a1 : a ≤ 9223372036854775807) (b0 : -9223372036854775808 ≤ b) (b1 : b ≤ 9223372036854775807) (w : World) : Calls Try.prog 6 #[.int .i64 a, .int .i64 b, .int .i64 c] w fun e w' => e = .returned (.bool true) ∧ Below w.heap.size w w' := by
  have f1 := neF (add_comm_ a b)
  have f2 := neF (mul_comm_ a b)
  have f3 := neF (add_assoc_ a b c)
  have f4 := neF (mul_assoc_ a b c)
  have f5 := neF (mul_add_ a b c)
  have f6 := eqT (add_zero_ a a0 a1)
  have f7 := eqT (mul_one_ a a0 a1)
  have f8 := eqT (add_sub_ a b a0 a1)
  have f9 := eqT (add_neg_ a)
  have f10 := eqT (sub_is_ a b)
  have f11 := eqT (mul_neg_ a)
  clear a0 a1 b0 b1
  go_enter Try.func6, Try.ntmps6
  go_wp2_with (first | (go_at_call 12; refine (alive_c _).mono ?_; rintro e w1 ⟨rfl, HB⟩) | (go_at_call 14; refine (add_c _ _ _).mono ?_; rintro e w' ⟨rfl, rfl⟩) | (go_at_call 15; refine (mul_c _ _ _).mono ?_; rintro e w' ⟨rfl, rfl⟩) | (go_at_call 16; refine (sub_c _ _ _).mono ?_; rintro e w' ⟨rfl, rfl⟩) | (go_at_call 17; refine (neg_c _ _).mono ?_; rintro e w' ⟨rfl, rfl⟩) | (go_at_call 18; refine (div_c _ _ _).mono ?_; rintro e w' ⟨rfl, rfl⟩) | (go_at_call 19; refine (rem_c _ _ _).mono ?_; rintro e w' ⟨rfl, rfl⟩) | (go_at_call 20; refine (and_c _ _ _).mono ?_; rintro e w' ⟨rfl, rfl⟩) | (go_at_call 21; refine (or_c _ _ _).mono ?_; rintro e w' ⟨rfl, rfl⟩) | (go_at_call 22; refine (xor_c _ _ _).mono ?_; rintro e w' ⟨rfl, rfl⟩) | (go_at_call 23; refine (inv_c _ _).mono ?_; rintro e w' ⟨rfl, rfl⟩) | (go_at_call 24; refine (bic_c _ _ _).mono ?_; rintro e w' ⟨rfl, rfl⟩) | (go_at_call 25; refine (shl_c _ _ _).mono ?_; rintro e w' ⟨rfl, rfl⟩) | (go_at_call 26; refine (shr_c _ _ _).mono ?_; rintro e w' ⟨rfl, rfl⟩))
  go_ret
  exact ⟨rfl, HB⟩
theorem wdiv_7_2 : wdiv 7 2 = 3 := by rw [wdiv, if_neg (by decide), w64]; decide
set_option maxHeartbeats 4000000 in
theorem parts_c (a b : Int) (a0 : -9223372036854775808 ≤ a) (a1 : a ≤ 9223372036854775807) (b0 : -9223372036854775808 ≤ b) (b1 : b ≤ 9223372036854775807) (w : World) : Calls Try.prog 7 #[.int .i64 a, .int .i64 b] w fun e w' => e = .returned (.bool true) ∧ Below w.heap.size w w' := by
  have f0 := neF wdiv_7_2
  by_cases hb : b = 0
  · have z1 := eqT (show wdiv a b = 0 by rw [wdiv, if_pos hb])
    have z2 := eqT (show wrem a b = 0 by rw [wrem, if_pos hb])
    have z3 := eqT hb
    clear hb a0 a1 b0 b1
    go_enter Try.func7, Try.ntmps7
    go_wp2_with (first | (go_at_call 12; refine (alive_c _).mono ?_; rintro e w1 ⟨rfl, HB⟩) | (go_at_call 14; refine (add_c _ _ _).mono ?_; rintro e w' ⟨rfl, rfl⟩) | (go_at_call 15; refine (mul_c _ _ _).mono ?_; rintro e w' ⟨rfl, rfl⟩) | (go_at_call 16; refine (sub_c _ _ _).mono ?_; rintro e w' ⟨rfl, rfl⟩) | (go_at_call 17; refine (neg_c _ _).mono ?_; rintro e w' ⟨rfl, rfl⟩) | (go_at_call 18; refine (div_c _ _ _).mono ?_; rintro e w' ⟨rfl, rfl⟩) | (go_at_call 19; refine (rem_c _ _ _).mono ?_; rintro e w' ⟨rfl, rfl⟩) | (go_at_call 20; refine (and_c _ _ _).mono ?_; rintro e w' ⟨rfl, rfl⟩) | (go_at_call 21; refine (or_c _ _ _).mono ?_; rintro e w' ⟨rfl, rfl⟩) | (go_at_call 22; refine (xor_c _ _ _).mono ?_; rintro e w' ⟨rfl, rfl⟩) | (go_at_call 23; refine (inv_c _ _).mono ?_; rintro e w' ⟨rfl, rfl⟩) | (go_at_call 24; refine (bic_c _ _ _).mono ?_; rintro e w' ⟨rfl, rfl⟩) | (go_at_call 25; refine (shl_c _ _ _).mono ?_; rintro e w' ⟨rfl, rfl⟩) | (go_at_call 26; refine (shr_c _ _ _).mono ?_; rintro e w' ⟨rfl, rfl⟩))
    go_ret
    exact ⟨rfl, HB⟩
  · have f1 := neF (parts_again a b a0 a1 hb)
    obtain ⟨r1, r2, r3, r4⟩ := rem_range a b b0 b1 hb
    have z3 := eqF hb
    have R3 := Lib.hid r3
    have R4 := Lib.hid r4
    clear r3 r4
    by_cases hm : b = -9223372036854775808
    · have hm' := eqT hm
      have g1 : decide (0 ≤ a) = true → 0 ≤ wrem a b := fun h => R3.out (of_decide_eq_true h)
      by_cases he : a = b
      · have he' := eqT he
        have y1 := eqT (show wdiv a b = 1 by rw [he, hm]; exact min_self.2)
        have y2 := eqT (show wrem a b = 0 by rw [he, hm]; exact min_self.1)
        have y3 := eqF (show wrem a b ≠ a by rw [he, hm, min_self.1]; decide)
        have y4 := show wrem a b ≤ 0 by rw [he, hm, min_self.1]; decide
        have y5 := show 0 ≤ wrem a b by rw [he, hm, min_self.1]; decide
        have y6 := show a < 0 by omega
        clear g1 hm he hb R3 R4 r1 r2 a0 a1 b0 b1
        go_enter Try.func7, Try.ntmps7
        go_wp2_with (first | (go_at_call 12; refine (alive_c _).mono ?_; rintro e w1 ⟨rfl, HB⟩) | (go_at_call 14; refine (add_c _ _ _).mono ?_; rintro e w' ⟨rfl, rfl⟩) | (go_at_call 15; refine (mul_c _ _ _).mono ?_; rintro e w' ⟨rfl, rfl⟩) | (go_at_call 16; refine (sub_c _ _ _).mono ?_; rintro e w' ⟨rfl, rfl⟩) | (go_at_call 17; refine (neg_c _ _).mono ?_; rintro e w' ⟨rfl, rfl⟩) | (go_at_call 18; refine (div_c _ _ _).mono ?_; rintro e w' ⟨rfl, rfl⟩) | (go_at_call 19; refine (rem_c _ _ _).mono ?_; rintro e w' ⟨rfl, rfl⟩) | (go_at_call 20; refine (and_c _ _ _).mono ?_; rintro e w' ⟨rfl, rfl⟩) | (go_at_call 21; refine (or_c _ _ _).mono ?_; rintro e w' ⟨rfl, rfl⟩) | (go_at_call 22; refine (xor_c _ _ _).mono ?_; rintro e w' ⟨rfl, rfl⟩) | (go_at_call 23; refine (inv_c _ _).mono ?_; rintro e w' ⟨rfl, rfl⟩) | (go_at_call 24; refine (bic_c _ _ _).mono ?_; rintro e w' ⟨rfl, rfl⟩) | (go_at_call 25; refine (shl_c _ _ _).mono ?_; rintro e w' ⟨rfl, rfl⟩) | (go_at_call 26; refine (shr_c _ _ _).mono ?_; rintro e w' ⟨rfl, rfl⟩))
        go_ret
        exact ⟨rfl, HB⟩
      · have he' := eqF he
        have y1 := eqT (show wdiv a b = 0 by rw [hm]; exact (min_rem a a0 a1 (by rw [← hm]; exact he)).2)
        have y2 := eqT (show wrem a b = a by rw [hm]; exact (min_rem a a0 a1 (by rw [← hm]; exact he)).1)
        have y3 : wrem a b ≤ a ∧ a ≤ wrem a b := by rw [hm, (min_rem a a0 a1 (by rw [← hm]; exact he)).1]; omega
        obtain ⟨y3, y4⟩ := y3
        by_cases hz : 0 ≤ a
        all_goals by_cases hz2 : a ≤ 0
        all_goals try (exfalso; omega)
        all_goals clear g1 hm he hb R3 R4 r1 r2 b0 b1
        all_goals
          go_enter Try.func7, Try.ntmps7
          go_wp2_with (first | (go_at_call 12; refine (alive_c _).mono ?_; rintro e w1 ⟨rfl, HB⟩) | (go_at_call 14; refine (add_c _ _ _).mono ?_; rintro e w' ⟨rfl, rfl⟩) | (go_at_call 15; refine (mul_c _ _ _).mono ?_; rintro e w' ⟨rfl, rfl⟩) | (go_at_call 16; refine (sub_c _ _ _).mono ?_; rintro e w' ⟨rfl, rfl⟩) | (go_at_call 17; refine (neg_c _ _).mono ?_; rintro e w' ⟨rfl, rfl⟩) | (go_at_call 18; refine (div_c _ _ _).mono ?_; rintro e w' ⟨rfl, rfl⟩) | (go_at_call 19; refine (rem_c _ _ _).mono ?_; rintro e w' ⟨rfl, rfl⟩) | (go_at_call 20; refine (and_c _ _ _).mono ?_; rintro e w' ⟨rfl, rfl⟩) | (go_at_call 21; refine (or_c _ _ _).mono ?_; rintro e w' ⟨rfl, rfl⟩) | (go_at_call 22; refine (xor_c _ _ _).mono ?_; rintro e w' ⟨rfl, rfl⟩) | (go_at_call 23; refine (inv_c _ _).mono ?_; rintro e w' ⟨rfl, rfl⟩) | (go_at_call 24; refine (bic_c _ _ _).mono ?_; rintro e w' ⟨rfl, rfl⟩) | (go_at_call 25; refine (shl_c _ _ _).mono ?_; rintro e w' ⟨rfl, rfl⟩) | (go_at_call 26; refine (shr_c _ _ _).mono ?_; rintro e w' ⟨rfl, rfl⟩))
          go_ret
          exact ⟨rfl, HB⟩
    · have hm' := eqF hm
      by_cases hz : 0 ≤ a
      all_goals by_cases hz2 : a ≤ 0
      all_goals try (exfalso; omega)
      all_goals first | have u3 := R3.out hz | skip
      all_goals first | have u4 := R4.out hz2 | skip
      all_goals by_cases hn : b < 0
      all_goals first | (have k1 : wrem a b < -b := by (have h := r1; unfold usize at h; rw [if_pos hn] at h; exact h)) | (have k1 : wrem a b < b := by (have h := r1; unfold usize at h; rw [if_neg hn] at h; exact h))
      all_goals first | (have k2 : b < wrem a b := by (have h := r2; unfold usize at h; rw [if_pos hn, Int.neg_neg] at h; exact h)) | (have k2 : -b < wrem a b := by (have h := r2; unfold usize at h; rw [if_neg hn] at h; exact h))
      all_goals have bm : -9223372036854775807 ≤ b := by omega
      all_goals clear hb R3 R4 r1 r2 b0 hm
      all_goals
        go_enter Try.func7, Try.ntmps7
        go_wp2_with (first | (go_at_call 12; refine (alive_c _).mono ?_; rintro e w1 ⟨rfl, HB⟩) | (go_at_call 14; refine (add_c _ _ _).mono ?_; rintro e w' ⟨rfl, rfl⟩) | (go_at_call 15; refine (mul_c _ _ _).mono ?_; rintro e w' ⟨rfl, rfl⟩) | (go_at_call 16; refine (sub_c _ _ _).mono ?_; rintro e w' ⟨rfl, rfl⟩) | (go_at_call 17; refine (neg_c _ _).mono ?_; rintro e w' ⟨rfl, rfl⟩) | (go_at_call 18; refine (div_c _ _ _).mono ?_; rintro e w' ⟨rfl, rfl⟩) | (go_at_call 19; refine (rem_c _ _ _).mono ?_; rintro e w' ⟨rfl, rfl⟩) | (go_at_call 20; refine (and_c _ _ _).mono ?_; rintro e w' ⟨rfl, rfl⟩) | (go_at_call 21; refine (or_c _ _ _).mono ?_; rintro e w' ⟨rfl, rfl⟩) | (go_at_call 22; refine (xor_c _ _ _).mono ?_; rintro e w' ⟨rfl, rfl⟩) | (go_at_call 23; refine (inv_c _ _).mono ?_; rintro e w' ⟨rfl, rfl⟩) | (go_at_call 24; refine (bic_c _ _ _).mono ?_; rintro e w' ⟨rfl, rfl⟩) | (go_at_call 25; refine (shl_c _ _ _).mono ?_; rintro e w' ⟨rfl, rfl⟩) | (go_at_call 26; refine (shr_c _ _ _).mono ?_; rintro e w' ⟨rfl, rfl⟩))
        go_ret
        exact ⟨rfl, HB⟩
theorem wand_6_3 : wand 6 3 = 2 := by decide
theorem wor_6_3 : wor 6 3 = 7 := by decide
theorem bitslaw_c (a b : Int) (a0 : -9223372036854775808 ≤ a) (a1 : a ≤ 9223372036854775807) (b0 : -9223372036854775808 ≤ b) (b1 : b ≤ 9223372036854775807) (w : World) : Calls Try.prog 8 #[.int .i64 a, .int .i64 b] w fun e w' => e = .returned (.bool true) ∧ Below w.heap.size w w' := by
  have f1 := neF wand_6_3
  have f2 := neF wor_6_3
  have f3 := neF (xor_xor_ a b a0 a1)
  have f4 := neF (inv_inv_ a a0 a1)
  have f5 := neF (add_inv_ a)
  have f6 := eqT (and_or_ a b)
  have f7 := eqT (xor_sub_ a b)
  have f8 := eqT (bic_sub_ a b)
  have f9 := eqT (bic_and_ a b)
  have f10 := eqT (inv_and_ a b)
  clear a0 a1 b0 b1
  go_enter Try.func8, Try.ntmps8
  go_wp2_with (first | (go_at_call 12; refine (alive_c _).mono ?_; rintro e w1 ⟨rfl, HB⟩) | (go_at_call 14; refine (add_c _ _ _).mono ?_; rintro e w' ⟨rfl, rfl⟩) | (go_at_call 15; refine (mul_c _ _ _).mono ?_; rintro e w' ⟨rfl, rfl⟩) | (go_at_call 16; refine (sub_c _ _ _).mono ?_; rintro e w' ⟨rfl, rfl⟩) | (go_at_call 17; refine (neg_c _ _).mono ?_; rintro e w' ⟨rfl, rfl⟩) | (go_at_call 18; refine (div_c _ _ _).mono ?_; rintro e w' ⟨rfl, rfl⟩) | (go_at_call 19; refine (rem_c _ _ _).mono ?_; rintro e w' ⟨rfl, rfl⟩) | (go_at_call 20; refine (and_c _ _ _).mono ?_; rintro e w' ⟨rfl, rfl⟩) | (go_at_call 21; refine (or_c _ _ _).mono ?_; rintro e w' ⟨rfl, rfl⟩) | (go_at_call 22; refine (xor_c _ _ _).mono ?_; rintro e w' ⟨rfl, rfl⟩) | (go_at_call 23; refine (inv_c _ _).mono ?_; rintro e w' ⟨rfl, rfl⟩) | (go_at_call 24; refine (bic_c _ _ _).mono ?_; rintro e w' ⟨rfl, rfl⟩) | (go_at_call 25; refine (shl_c _ _ _).mono ?_; rintro e w' ⟨rfl, rfl⟩) | (go_at_call 26; refine (shr_c _ _ _).mono ?_; rintro e w' ⟨rfl, rfl⟩))
  go_ret
  exact ⟨rfl, HB⟩
theorem wshl_1_3 : wshl 1 3 = 8 := by decide
theorem wshr_8_3 : wshr (-8) 3 = -1 := by decide
theorem shifts_c (a b : Int) (a0 : -9223372036854775808 ≤ a) (a1 : a ≤ 9223372036854775807) (b0 : -9223372036854775808 ≤ b) (b1 : b ≤ 9223372036854775807) (w : World) : Calls Try.prog 9 #[.int .i64 a, .int .i64 b] w fun e w' => e = .returned (.bool true) ∧ Below w.heap.size w w' := by
  have f1 := neF wshl_1_3
  have f2 := neF wshr_8_3
  by_cases hb : b < 0
  · have g1 := eqT (shl_neg a b hb)
    have g2 := eqT (shr_neg a b hb)
    go_enter Try.func9, Try.ntmps9
    go_wp2_with (first | (go_at_call 12; refine (alive_c _).mono ?_; rintro e w1 ⟨rfl, HB⟩) | (go_at_call 14; refine (add_c _ _ _).mono ?_; rintro e w' ⟨rfl, rfl⟩) | (go_at_call 15; refine (mul_c _ _ _).mono ?_; rintro e w' ⟨rfl, rfl⟩) | (go_at_call 16; refine (sub_c _ _ _).mono ?_; rintro e w' ⟨rfl, rfl⟩) | (go_at_call 17; refine (neg_c _ _).mono ?_; rintro e w' ⟨rfl, rfl⟩) | (go_at_call 18; refine (div_c _ _ _).mono ?_; rintro e w' ⟨rfl, rfl⟩) | (go_at_call 19; refine (rem_c _ _ _).mono ?_; rintro e w' ⟨rfl, rfl⟩) | (go_at_call 20; refine (and_c _ _ _).mono ?_; rintro e w' ⟨rfl, rfl⟩) | (go_at_call 21; refine (or_c _ _ _).mono ?_; rintro e w' ⟨rfl, rfl⟩) | (go_at_call 22; refine (xor_c _ _ _).mono ?_; rintro e w' ⟨rfl, rfl⟩) | (go_at_call 23; refine (inv_c _ _).mono ?_; rintro e w' ⟨rfl, rfl⟩) | (go_at_call 24; refine (bic_c _ _ _).mono ?_; rintro e w' ⟨rfl, rfl⟩) | (go_at_call 25; refine (shl_c _ _ _).mono ?_; rintro e w' ⟨rfl, rfl⟩) | (go_at_call 26; refine (shr_c _ _ _).mono ?_; rintro e w' ⟨rfl, rfl⟩))
    go_ret
    exact ⟨rfl, HB⟩
  · by_cases hf : 63 < b
    · have g1 := eqT (shl_far a b hf)
      by_cases ha : a < 0
      all_goals first | (have g2 := eqT (show wshr a b = -1 by rw [shr_far a b a0 a1 hf, if_pos ha])) | (have g2 := eqT (show wshr a b = 0 by rw [shr_far a b a0 a1 hf, if_neg ha]))
      all_goals
        go_enter Try.func9, Try.ntmps9
        go_wp2_with (first | (go_at_call 12; refine (alive_c _).mono ?_; rintro e w1 ⟨rfl, HB⟩) | (go_at_call 14; refine (add_c _ _ _).mono ?_; rintro e w' ⟨rfl, rfl⟩) | (go_at_call 15; refine (mul_c _ _ _).mono ?_; rintro e w' ⟨rfl, rfl⟩) | (go_at_call 16; refine (sub_c _ _ _).mono ?_; rintro e w' ⟨rfl, rfl⟩) | (go_at_call 17; refine (neg_c _ _).mono ?_; rintro e w' ⟨rfl, rfl⟩) | (go_at_call 18; refine (div_c _ _ _).mono ?_; rintro e w' ⟨rfl, rfl⟩) | (go_at_call 19; refine (rem_c _ _ _).mono ?_; rintro e w' ⟨rfl, rfl⟩) | (go_at_call 20; refine (and_c _ _ _).mono ?_; rintro e w' ⟨rfl, rfl⟩) | (go_at_call 21; refine (or_c _ _ _).mono ?_; rintro e w' ⟨rfl, rfl⟩) | (go_at_call 22; refine (xor_c _ _ _).mono ?_; rintro e w' ⟨rfl, rfl⟩) | (go_at_call 23; refine (inv_c _ _).mono ?_; rintro e w' ⟨rfl, rfl⟩) | (go_at_call 24; refine (bic_c _ _ _).mono ?_; rintro e w' ⟨rfl, rfl⟩) | (go_at_call 25; refine (shl_c _ _ _).mono ?_; rintro e w' ⟨rfl, rfl⟩) | (go_at_call 26; refine (shr_c _ _ _).mono ?_; rintro e w' ⟨rfl, rfl⟩))
        go_ret
        exact ⟨rfl, HB⟩
    · have X0 := Lib.hid (pshl_zero a a0 a1)
      have Y0 := Lib.hid (pshr_zero a)
      have A0 := Lib.hid a0
      have A1 := Lib.hid a1
      by_cases ha : a < 0
      all_goals
        go_enter Try.func9, Try.ntmps9
        go_wp2_with (first | (go_at_call 12; refine (alive_c _).mono ?_; rintro e w1 ⟨rfl, HB⟩) | (go_at_call 14; refine (add_c _ _ _).mono ?_; rintro e w' ⟨rfl, rfl⟩) | (go_at_call 15; refine (mul_c _ _ _).mono ?_; rintro e w' ⟨rfl, rfl⟩) | (go_at_call 16; refine (sub_c _ _ _).mono ?_; rintro e w' ⟨rfl, rfl⟩) | (go_at_call 17; refine (neg_c _ _).mono ?_; rintro e w' ⟨rfl, rfl⟩) | (go_at_call 18; refine (div_c _ _ _).mono ?_; rintro e w' ⟨rfl, rfl⟩) | (go_at_call 19; refine (rem_c _ _ _).mono ?_; rintro e w' ⟨rfl, rfl⟩) | (go_at_call 20; refine (and_c _ _ _).mono ?_; rintro e w' ⟨rfl, rfl⟩) | (go_at_call 21; refine (or_c _ _ _).mono ?_; rintro e w' ⟨rfl, rfl⟩) | (go_at_call 22; refine (xor_c _ _ _).mono ?_; rintro e w' ⟨rfl, rfl⟩) | (go_at_call 23; refine (inv_c _ _).mono ?_; rintro e w' ⟨rfl, rfl⟩) | (go_at_call 24; refine (bic_c _ _ _).mono ?_; rintro e w' ⟨rfl, rfl⟩) | (go_at_call 25; refine (shl_c _ _ _).mono ?_; rintro e w' ⟨rfl, rfl⟩) | (go_at_call 26; refine (shr_c _ _ _).mono ?_; rintro e w' ⟨rfl, rfl⟩))
        go_loopw [6, 7, 8] (fun x y i wr => ∃ k : Nat, k ≤ 63 ∧ (k : Int) ≤ b ∧ i = .int .i64 k ∧ x = .int .i64 (pshl a k) ∧ y = .int .i64 (pshr a k) ∧ Below w.heap.size w wr) (fun _ _ i _ => 64 - (intOf i).toNat)
        case atStart => exact ⟨0, by omega, by omega, rfl, X0.out.symm, Y0.out.symm, HB⟩
        case round =>
          obtain ⟨k, hk, hkb, rfl, rfl, rfl, HR⟩ := hrel
          by_cases hlt : (k : Int) < b
          · have SX := Lib.hid (shl_step a k)
            have SY := Lib.hid (shr_step a k A0.out A1.out)
            go_wp2_with (first | (go_at_call 15; refine (mul_c _ _ _).mono ?_; rintro e w' ⟨rfl, rfl⟩) | (go_at_call 20; refine (and_c _ _ _).mono ?_; rintro e w' ⟨rfl, rfl⟩) | (go_at_call 16; refine (sub_c _ _ _).mono ?_; rintro e w' ⟨rfl, rfl⟩) | (go_at_call 18; refine (div_c _ _ _).mono ?_; rintro e w' ⟨rfl, rfl⟩))
            go_roundw
            case rel => exact ⟨k + 1, by omega, by omega, by go_num, by rw [SX.out], by rw [SY.out], HR⟩
            case measure => simp [intOf]; omega
          · have g1 := eqT (pshl_is a b k (by omega) (by omega))
            have g2 := eqT (pshr_is a b k (by omega) (by omega))
            go_wp2_with (first | (go_at_call 25; refine (shl_c _ _ _).mono ?_; rintro e w' ⟨rfl, rfl⟩) | (go_at_call 26; refine (shr_c _ _ _).mono ?_; rintro e w' ⟨rfl, rfl⟩))
            go_ret
            exact ⟨rfl, HR⟩
/-- What Do answers of a comparison, as a bool. -/
theorem truth_law (op a b : Int) (t : Bool) (h : wdo op a b = tr t) (ho : isOp op = true) (w : World) : Calls Try.prog 27 #[.int .i64 op, .int .i64 a, .int .i64 b] w fun e w' => e = .returned (.tuple #[.bool t, .bool true]) ∧ Below w.heap.size w w' := by
  have D : Calls Try.prog 28 #[.int .i64 op, .int .i64 a, .int .i64 b] w fun e w' => e = .returned (.tuple #[.int .i64 (tr t), .bool true]) ∧ Below w.heap.size w w' := by
    have := do_c op a b w
    rw [h, ho] at this
    exact this
  have DD := Lib.hid D
  clear D h ho
  cases t
  all_goals
    go_enter Try.func27, Try.ntmps27
    go_wp2_with (go_at_call 28; refine DD.out.mono ?_; rintro e w1 ⟨rfl, HB⟩; simp only [tr, if_true, if_false, Bool.false_eq_true])
    go_ret2
    exact ⟨rfl, HB⟩
theorem order_c (a b : Int) (a0 : -9223372036854775808 ≤ a) (a1 : a ≤ 9223372036854775807) (b0 : -9223372036854775808 ≤ b) (b1 : b ≤ 9223372036854775807) (w : World) : Calls Try.prog 10 #[.int .i64 a, .int .i64 b] w fun e w' => e = .returned (.bool true) ∧ Below w.heap.size w w' := by
  have T (op x y : Int) (t : Bool) (h : wdo op x y = tr t) (ho : isOp op = true) := truth_law op x y t h ho
  have e1 : wsub 1 1 = 0 := by rw [wsub, w64]; decide
  have e0 : wsub 1 0 = 1 := by rw [wsub, w64]; decide
  have D1 : ∀ w, Calls Try.prog 28 #[.int .i64 19, .int .i64 1, .int .i64 a] w fun e w' => e = .returned (.tuple #[.int .i64 0, .bool true]) ∧ Below w.heap.size w w' := fun w => by have h := do_19 1 a w; rw [e1] at h; exact h
  have D2 : ∀ w, Calls Try.prog 28 #[.int .i64 19, .int .i64 0, .int .i64 b] w fun e w' => e = .returned (.tuple #[.int .i64 1, .bool true]) ∧ Below w.heap.size w w' := fun w => by have h := do_19 0 b w; rw [e0] at h; exact h
  have D3 : ∀ w, Calls Try.prog 28 #[.int .i64 13, .int .i64 a, .int .i64 a] w fun e w' => e = .returned (.tuple #[.int .i64 1, .bool true]) ∧ Below w.heap.size w w' := fun w => by have h := do_13 a a w; simp only [beq_self_eq_true, tr, if_true] at h; exact h
  have E1 := Lib.hid D1
  have E2 := Lib.hid D2
  have E3 := Lib.hid D3
  clear D1 D2 D3 T e1 e0
  have c13 (t : Bool) (h : (a == b) = t) : wdo 13 a b = tr t := by rw [← h]; rfl
  have c14 (t : Bool) (h : (a != b) = t) : wdo 14 a b = tr t := by rw [← h]; rfl
  have c15 (t : Bool) (h : decide (a < b) = t) : wdo 15 a b = tr t := by rw [← h]; rfl
  have c16 (t : Bool) (h : decide (a ≤ b) = t) : wdo 16 a b = tr t := by rw [← h]; rfl
  have c17 (t : Bool) (h : decide (b < a) = t) : wdo 15 b a = tr t := by rw [← h]; rfl
  rcases Int.lt_trichotomy a b with h | h | h

  · have C1 := Lib.hid (fun w => truth_law 13 a b false (c13 false (eqF (by omega))) rfl w)
    have C2 := Lib.hid (fun w => truth_law 14 a b true (c14 true (bne_iff_ne.2 (by omega))) rfl w)
    have C3 := Lib.hid (fun w => truth_law 15 a b true (c15 true (decide_eq_true (by omega))) rfl w)
    have C4 := Lib.hid (fun w => truth_law 16 a b true (c16 true (decide_eq_true (by omega))) rfl w)
    have C5 := Lib.hid (fun w => truth_law 15 b a false (c17 false (decide_eq_false (by omega))) rfl w)
    clear c13 c14 c15 c16 c17 h a0 a1 b0 b1
    go_enter Try.func10, Try.ntmps10
    go_wp2_with fail
    refine (C1.out _).mono ?_
    rintro e w1 ⟨rfl, H1⟩
    go_wp2_with fail
    refine (C2.out _).mono ?_
    rintro e w2 ⟨rfl, H2⟩
    go_wp2_with fail
    refine (C3.out _).mono ?_
    rintro e w3 ⟨rfl, H3⟩
    go_wp2_with fail
    refine (C4.out _).mono ?_
    rintro e w4 ⟨rfl, H4⟩
    go_wp2_with fail
    refine (C5.out _).mono ?_
    rintro e w5 ⟨rfl, H5⟩
    go_wp2_with fail
    refine (alive_c _).mono ?_
    rintro e w6 ⟨rfl, H6⟩
    go_wp2_with fail
    refine (E1.out _).mono ?_
    rintro e w7 ⟨rfl, H7⟩
    go_wp2_with fail
    refine (E2.out _).mono ?_
    rintro e w8 ⟨rfl, H8⟩
    go_wp2_with fail
    refine (E3.out _).mono ?_
    rintro e w9 ⟨rfl, H9⟩
    go_wp2_with fail
    go_ret
    have K2 := H1.trans (H2.mono H1.size)
    have K3 := K2.trans (H3.mono K2.size)
    have K4 := K3.trans (H4.mono K3.size)
    have K5 := K4.trans (H5.mono K4.size)
    have K6 := K5.trans (H6.mono K5.size)
    have K7 := K6.trans (H7.mono K6.size)
    have K8 := K7.trans (H8.mono K7.size)
    exact ⟨rfl, K8.trans (H9.mono K8.size)⟩
  · have C1 := Lib.hid (fun w => truth_law 13 a b true (c13 true (eqT h)) rfl w)
    have C2 := Lib.hid (fun w => truth_law 14 a b false (c14 false (neF h)) rfl w)
    have C3 := Lib.hid (fun w => truth_law 15 a b false (c15 false (decide_eq_false (by omega))) rfl w)
    have C4 := Lib.hid (fun w => truth_law 16 a b true (c16 true (decide_eq_true (by omega))) rfl w)
    have C5 := Lib.hid (fun w => truth_law 15 b a false (c17 false (decide_eq_false (by omega))) rfl w)
    clear c13 c14 c15 c16 c17 h a0 a1 b0 b1
    go_enter Try.func10, Try.ntmps10
    go_wp2_with fail
    refine (C1.out _).mono ?_
    rintro e w1 ⟨rfl, H1⟩
    go_wp2_with fail
    refine (C2.out _).mono ?_
    rintro e w2 ⟨rfl, H2⟩
    go_wp2_with fail
    refine (C3.out _).mono ?_
    rintro e w3 ⟨rfl, H3⟩
    go_wp2_with fail
    refine (C4.out _).mono ?_
    rintro e w4 ⟨rfl, H4⟩
    go_wp2_with fail
    refine (C5.out _).mono ?_
    rintro e w5 ⟨rfl, H5⟩
    go_wp2_with fail
    refine (alive_c _).mono ?_
    rintro e w6 ⟨rfl, H6⟩
    go_wp2_with fail
    refine (E1.out _).mono ?_
    rintro e w7 ⟨rfl, H7⟩
    go_wp2_with fail
    refine (E2.out _).mono ?_
    rintro e w8 ⟨rfl, H8⟩
    go_wp2_with fail
    refine (E3.out _).mono ?_
    rintro e w9 ⟨rfl, H9⟩
    go_wp2_with fail
    go_ret
    have K2 := H1.trans (H2.mono H1.size)
    have K3 := K2.trans (H3.mono K2.size)
    have K4 := K3.trans (H4.mono K3.size)
    have K5 := K4.trans (H5.mono K4.size)
    have K6 := K5.trans (H6.mono K5.size)
    have K7 := K6.trans (H7.mono K6.size)
    have K8 := K7.trans (H8.mono K7.size)
    exact ⟨rfl, K8.trans (H9.mono K8.size)⟩
  · have C1 := Lib.hid (fun w => truth_law 13 a b false (c13 false (eqF (by omega))) rfl w)
    have C2 := Lib.hid (fun w => truth_law 14 a b true (c14 true (bne_iff_ne.2 (by omega))) rfl w)
    have C3 := Lib.hid (fun w => truth_law 15 a b false (c15 false (decide_eq_false (by omega))) rfl w)
    have C4 := Lib.hid (fun w => truth_law 16 a b false (c16 false (decide_eq_false (by omega))) rfl w)
    have C5 := Lib.hid (fun w => truth_law 15 b a true (c17 true (decide_eq_true (by omega))) rfl w)
    clear c13 c14 c15 c16 c17 h a0 a1 b0 b1
    go_enter Try.func10, Try.ntmps10
    go_wp2_with fail
    refine (C1.out _).mono ?_
    rintro e w1 ⟨rfl, H1⟩
    go_wp2_with fail
    refine (C2.out _).mono ?_
    rintro e w2 ⟨rfl, H2⟩
    go_wp2_with fail
    refine (C3.out _).mono ?_
    rintro e w3 ⟨rfl, H3⟩
    go_wp2_with fail
    refine (C4.out _).mono ?_
    rintro e w4 ⟨rfl, H4⟩
    go_wp2_with fail
    refine (C5.out _).mono ?_
    rintro e w5 ⟨rfl, H5⟩
    go_wp2_with fail
    refine (alive_c _).mono ?_
    rintro e w6 ⟨rfl, H6⟩
    go_wp2_with fail
    refine (E1.out _).mono ?_
    rintro e w7 ⟨rfl, H7⟩
    go_wp2_with fail
    refine (E2.out _).mono ?_
    rintro e w8 ⟨rfl, H8⟩
    go_wp2_with fail
    refine (E3.out _).mono ?_
    rintro e w9 ⟨rfl, H9⟩
    go_wp2_with fail
    go_ret
    have K2 := H1.trans (H2.mono H1.size)
    have K3 := K2.trans (H3.mono K2.size)
    have K4 := K3.trans (H4.mono K3.size)
    have K5 := K4.trans (H5.mono K4.size)
    have K6 := K5.trans (H6.mono K5.size)
    have K7 := K6.trans (H7.mono K6.size)
    have K8 := K7.trans (H8.mono K7.size)
    exact ⟨rfl, K8.trans (H9.mono K8.size)⟩
theorem none_c (op a b : Int) (w : World) : Calls Try.prog 11 #[.int .i64 op, .int .i64 a, .int .i64 b] w fun e w' => e = .returned (.bool true) ∧ Below w.heap.size w w' := by
  by_cases h1 : 2 ≤ op ∧ op ≤ 19
  · have D := do_c op a b
    rw [isOp_yes op h1] at D
    have DD := Lib.hid D
    clear D
    obtain ⟨h2, h3⟩ := h1
    have d1 : decide (op < 2) = false := decide_eq_false (by omega)
    have d2 : decide (19 < op) = false := decide_eq_false (by omega)
    go_enter Try.func11, Try.ntmps11
    go_wp2_with (first | (go_at_call 12; refine (alive_c _).mono ?_; rintro e w1 ⟨rfl, HB⟩) | (go_at_call 28; refine (DD.out _).mono ?_; rintro e w2 ⟨rfl, HB2⟩))
    go_ret
    exact ⟨rfl, HB.trans (HB2.mono HB.size)⟩
  · have D := do_c op a b
    rw [isOp_none op h1, wdo_none op a b h1] at D
    have DD := Lib.hid D
    clear D
    have h2 : op < 2 ∨ 19 < op := by omega
    clear h1
    rcases h2 with h | h
    all_goals
      go_enter Try.func11, Try.ntmps11
      go_wp2_with (first | (go_at_call 12; refine (alive_c _).mono ?_; rintro e w1 ⟨rfl, HB⟩) | (go_at_call 28; refine (DD.out _).mono ?_; rintro e w2 ⟨rfl, HB2⟩))
      go_ret
      exact ⟨rfl, HB.trans (HB2.mono HB.size)⟩
end Go.Proofs.Ytlegpccgmgbekaa
