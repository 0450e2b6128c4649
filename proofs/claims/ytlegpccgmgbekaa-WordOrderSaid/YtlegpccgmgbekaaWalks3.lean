/- The walks of the document's own bit by bit sums, and of its Do: each gives the word of Plain. -/
import Derived.Test.YtlegpccgmgbekaaWalks2
import Derived.Test.YtlegpccgmgbekaaPlain3
import Derived.Handy
namespace Go.Proofs.Ytlegpccgmgbekaa
open Go.RowKit
theorem bits_c (a b t0 t1 t2 t3 : Int) (w : World) : Calls Try.prog 45 #[.int .i64 a, .int .i64 b, .agg #[.int .u64 t0, .int .u64 t1, .int .u64 t2, .int .u64 t3]] w
    fun e w' => e = .returned (.int .i64 (wrap64 (bsum t0 t1 t2 t3 (IntKind.u64.wrap a) (IntKind.u64.wrap b) 64))) ∧ Below w.heap.size w w' := by
  have hx := u64w a
  have hx0 : 0 ≤ IntKind.u64.wrap a := by rw [u64w]; omega
  have hx1 : IntKind.u64.wrap a ≤ 18446744073709551615 := by rw [u64w]; omega
  have hy0 : 0 ≤ IntKind.u64.wrap b := by rw [u64w]; omega
  have hy1 : IntKind.u64.wrap b ≤ 18446744073709551615 := by rw [u64w]; omega
  clear hx
  have XX := Lib.hid (rfl : IntKind.u64.wrap a = IntKind.u64.wrap a)
  generalize hX : IntKind.u64.wrap a = X at *
  have HX := Lib.hid hX
  generalize hY : IntKind.u64.wrap b = Y at *
  have HY := Lib.hid hY
  clear hX hY XX
  have HB := (Below.refl w.heap.size w).alloc (Nat.le_refl _) (.cells #[.int .u64 t0, .int .u64 t1, .int .u64 t2, .int .u64 t3] 41)
  go_enter Try.func45, Try.ntmps45
  go_wp2
  go_loop [7, 8, 9, 10, 11] (fun x y o r i => ∃ k : Nat, k ≤ 64 ∧ i = .int .i64 k ∧ x = .int .u64 (xdiv X k) ∧ y = .int .u64 (xdiv Y k) ∧ o = .int .u64 (ones k) ∧ r = .int .u64 (bsum t0 t1 t2 t3 X Y k)) (fun _ _ _ _ i => 64 - (intOf i).toNat)
  case atStart => exact ⟨0, by omega, rfl, by rw [HX.out]; exact (xdiv_zero X).symm, by rw [HY.out]; exact (xdiv_zero Y).symm, rfl, rfl⟩
  case round =>
    obtain ⟨k, hk, rfl, rfl, rfl, rfl, rfl⟩ := hrel
    by_cases hlt : k < 64
    · have x0 := xdiv_nonneg X k hx0
      have y0 := xdiv_nonneg Y k hy0
      have x1 := xdiv_le X k hx1 hx0
      have y1 := xdiv_le Y k hy1 hy0
      have NX := Lib.hid (xdiv_next X k)
      have NY := Lib.hid (xdiv_next Y k)
      have NO := Lib.hid (ones_next k)
      have NB := Lib.hid (bsum_next t0 t1 t2 t3 X Y k)
      rcases odd_or (xdiv X k) with hp | hp
      all_goals rcases odd_or (xdiv Y k) with hq | hq
      · have PK := Lib.hid (pick00 t0 t1 t2 t3 _ _ hp hq)
        go_wp2
        go_round
        case rel => exact ⟨k + 1, by omega, by go_num, by rw [NX.out], by rw [NY.out], by rw [NO.out], by rw [NB.out, PK.out]⟩
        case measure => simp [intOf]; omega
      · have PK := Lib.hid (pick01 t0 t1 t2 t3 _ _ hp hq)
        go_wp2
        go_round
        case rel => exact ⟨k + 1, by omega, by go_num, by rw [NX.out], by rw [NY.out], by rw [NO.out], by rw [NB.out, PK.out]⟩
        case measure => simp [intOf]; omega
      · have PK := Lib.hid (pick10 t0 t1 t2 t3 _ _ hp hq)
        go_wp2
        go_round
        case rel => exact ⟨k + 1, by omega, by go_num, by rw [NX.out], by rw [NY.out], by rw [NO.out], by rw [NB.out, PK.out]⟩
        case measure => simp [intOf]; omega
      · have PK := Lib.hid (pick11 t0 t1 t2 t3 _ _ hp hq)
        go_wp2
        go_round
        case rel => exact ⟨k + 1, by omega, by go_num, by rw [NX.out], by rw [NY.out], by rw [NO.out], by rw [NB.out, PK.out]⟩
        case measure => simp [intOf]; omega
    · obtain rfl : k = 64 := by omega
      go_wp2
      go_ret
      exact ⟨rfl, HB⟩

theorem rand_c (a b : Int) (w : World) : Calls Try.prog 34 #[.int .i64 a, .int .i64 b] w fun e w' => e = .returned (.int .i64 (wand a b)) ∧ Below w.heap.size w w' := by
  have H := Lib.hid (and_is a b)
  go_enter Try.func34, Try.ntmps34
  go_wp2_with (go_at_call 45; refine (bits_c a b 0 0 0 1 _).mono ?_; rintro e w' ⟨rfl, HB⟩)
  go_ret
  exact ⟨H.out, HB⟩
theorem ror_c (a b : Int) (w : World) : Calls Try.prog 35 #[.int .i64 a, .int .i64 b] w fun e w' => e = .returned (.int .i64 (wor a b)) ∧ Below w.heap.size w w' := by
  have H := Lib.hid (or_is a b)
  go_enter Try.func35, Try.ntmps35
  go_wp2_with (go_at_call 45; refine (bits_c a b 0 1 1 1 _).mono ?_; rintro e w' ⟨rfl, HB⟩)
  go_ret
  exact ⟨H.out, HB⟩
theorem rxor_c (a b : Int) (w : World) : Calls Try.prog 36 #[.int .i64 a, .int .i64 b] w fun e w' => e = .returned (.int .i64 (wxor a b)) ∧ Below w.heap.size w w' := by
  have H := Lib.hid (xor_is a b)
  go_enter Try.func36, Try.ntmps36
  go_wp2_with (go_at_call 45; refine (bits_c a b 0 1 1 0 _).mono ?_; rintro e w' ⟨rfl, HB⟩)
  go_ret
  exact ⟨H.out, HB⟩
theorem rbic_c (a b : Int) (w : World) : Calls Try.prog 37 #[.int .i64 a, .int .i64 b] w fun e w' => e = .returned (.int .i64 (wbic a b)) ∧ Below w.heap.size w w' := by
  have H := Lib.hid (bic_is a b)
  go_enter Try.func37, Try.ntmps37
  go_wp2_with (go_at_call 45; refine (bits_c a b 0 1 0 0 _).mono ?_; rintro e w' ⟨rfl, HB⟩)
  go_ret
  exact ⟨H.out, HB⟩
theorem rinv_c (a : Int) (w : World) : Calls Try.prog 41 #[.int .i64 a] w fun e w' => e = .returned (.int .i64 (winv a)) ∧ Below w.heap.size w w' := by
  have H := Lib.hid (inv_is a)
  go_enter Try.func41, Try.ntmps41
  go_wp2_with (go_at_call 45; refine (bits_c a 0 1 0 0 0 _).mono ?_; rintro e w' ⟨rfl, HB⟩)
  go_ret
  exact ⟨H.out, HB⟩
end Go.Proofs.Ytlegpccgmgbekaa
