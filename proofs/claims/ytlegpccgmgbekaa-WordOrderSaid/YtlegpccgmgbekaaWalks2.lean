/- The walks of the document's own word functions (quernref1) over this seat's translation: each call gives the word of Plain, where its numbers are ints. -/
import Derived.Test.YtlegpccgmgbekaaWalks1
import Derived.Test.YtlegpccgmgbekaaPlain2
namespace Go.Proofs.Ytlegpccgmgbekaa
open Go.RowKit
theorem radd_c (a b : Int) (w : World) : Calls Try.prog 29 #[.int .i64 a, .int .i64 b] w fun e w' => e = .returned (.int .i64 (wadd a b)) ∧ w = w' := by
  have H := Lib.hid (radd_eq a b)
  go_enter Try.func29, Try.ntmps29
  go_wp2
  go_ret
  exact ⟨H.out, rfl⟩
theorem rsub_c (a b : Int) (w : World) : Calls Try.prog 30 #[.int .i64 a, .int .i64 b] w fun e w' => e = .returned (.int .i64 (wsub a b)) ∧ w = w' := by
  have H := Lib.hid (rsub_eq a b)
  go_enter Try.func30, Try.ntmps30
  go_wp2
  go_ret
  exact ⟨H.out, rfl⟩
theorem rmul_c (a b : Int) (w : World) : Calls Try.prog 31 #[.int .i64 a, .int .i64 b] w fun e w' => e = .returned (.int .i64 (wmul a b)) ∧ w = w' := by
  have H := Lib.hid (rmul_eq a b)
  go_enter Try.func31, Try.ntmps31
  go_wp2
  go_ret
  exact ⟨H.out, rfl⟩
theorem rneg_c (a : Int) (w : World) : Calls Try.prog 40 #[.int .i64 a] w fun e w' => e = .returned (.int .i64 (wneg a)) ∧ w = w' := by
  have H := Lib.hid (rneg_eq a)
  go_enter Try.func40, Try.ntmps40
  go_wp2_with (go_at_call 30; refine (rsub_c _ _ _).mono ?_; rintro e w' ⟨rfl, rfl⟩)
  go_ret
  exact ⟨H.out, rfl⟩
theorem size_c (a : Int) (h0 : -9223372036854775808 ≤ a) (h1 : a ≤ 9223372036854775807) (w : World) : Calls Try.prog 44 #[.int .i64 a] w fun e w' => e = .returned (.int .u64 (usize a)) ∧ w = w' := by
  by_cases h : a < 0
  · have H := Lib.hid (size_neg a h0 h)
    go_enter Try.func44, Try.ntmps44
    go_wp2
    go_ret
    exact ⟨H.out, rfl⟩
  · have H := Lib.hid (size_pos a h)
    go_enter Try.func44, Try.ntmps44
    go_wp2
    go_ret
    exact ⟨H.out, rfl⟩
theorem rdiv_c (a b : Int) (a0 : -9223372036854775808 ≤ a) (a1 : a ≤ 9223372036854775807) (b0 : -9223372036854775808 ≤ b) (b1 : b ≤ 9223372036854775807) (w : World) :
    Calls Try.prog 32 #[.int .i64 a, .int .i64 b] w fun e w' => e = .returned (.int .i64 (wdiv a b)) ∧ w = w' := by
  by_cases hb : b = 0
  · have H := Lib.hid (show Ending.returned (.int .i64 0) = Ending.returned (.int .i64 (wdiv a b)) by rw [wdiv, if_pos hb])
    have hb' : (b == 0) = true := beq_iff_eq.2 hb
    clear hb
    go_enter Try.func32, Try.ntmps32
    go_wp2
    go_ret
    exact ⟨H.out, rfl⟩
  · have hb' : (b == 0) = false := beq_eq_false_iff_ne.2 hb
    have s0 := usize_nonneg a
    have s1 := usize_le a a0 a1
    have t0 := usize_pos b hb
    by_cases h1 : a < 0
    all_goals by_cases h2 : b < 0
    · have H := Lib.hid (div_same a b hb (Or.inl ⟨h1, h2⟩))
      have da : decide (a < 0) = true := decide_eq_true h1
      have db : decide (b < 0) = true := decide_eq_true h2
      go_enter Try.func32, Try.ntmps32
      go_wp2_with (first | (go_at_call 44; first | (with_reducible refine (size_c a a0 a1 _).mono ?_); rintro e w' ⟨rfl, rfl⟩ | (with_reducible refine (size_c b b0 b1 _).mono ?_); rintro e w' ⟨rfl, rfl⟩) | (go_at_call 40; refine (rneg_c _ _).mono ?_; rintro e w' ⟨rfl, rfl⟩))
      go_ret
      exact ⟨H.out, rfl⟩
    · have H := Lib.hid (div_mixed a b hb (Or.inl ⟨h1, h2⟩))
      have da : decide (a < 0) = true := decide_eq_true h1
      have db : decide (b < 0) = false := decide_eq_false h2
      go_enter Try.func32, Try.ntmps32
      go_wp2_with (first | (go_at_call 44; first | (with_reducible refine (size_c a a0 a1 _).mono ?_); rintro e w' ⟨rfl, rfl⟩ | (with_reducible refine (size_c b b0 b1 _).mono ?_); rintro e w' ⟨rfl, rfl⟩) | (go_at_call 40; refine (rneg_c _ _).mono ?_; rintro e w' ⟨rfl, rfl⟩))
      go_ret
      exact ⟨H.out, rfl⟩
    · have H := Lib.hid (div_mixed a b hb (Or.inr ⟨h1, h2⟩))
      have da : decide (a < 0) = false := decide_eq_false h1
      have db : decide (b < 0) = true := decide_eq_true h2
      go_enter Try.func32, Try.ntmps32
      go_wp2_with (first | (go_at_call 44; first | (with_reducible refine (size_c a a0 a1 _).mono ?_); rintro e w' ⟨rfl, rfl⟩ | (with_reducible refine (size_c b b0 b1 _).mono ?_); rintro e w' ⟨rfl, rfl⟩) | (go_at_call 40; refine (rneg_c _ _).mono ?_; rintro e w' ⟨rfl, rfl⟩))
      go_ret
      exact ⟨H.out, rfl⟩
    · have H := Lib.hid (div_same a b hb (Or.inr ⟨h1, h2⟩))
      have da : decide (a < 0) = false := decide_eq_false h1
      have db : decide (b < 0) = false := decide_eq_false h2
      go_enter Try.func32, Try.ntmps32
      go_wp2_with (first | (go_at_call 44; first | (with_reducible refine (size_c a a0 a1 _).mono ?_); rintro e w' ⟨rfl, rfl⟩ | (with_reducible refine (size_c b b0 b1 _).mono ?_); rintro e w' ⟨rfl, rfl⟩) | (go_at_call 40; refine (rneg_c _ _).mono ?_; rintro e w' ⟨rfl, rfl⟩))
      go_ret
      exact ⟨H.out, rfl⟩
theorem rrem_c (a b : Int) (a0 : -9223372036854775808 ≤ a) (a1 : a ≤ 9223372036854775807) (b0 : -9223372036854775808 ≤ b) (b1 : b ≤ 9223372036854775807) (w : World) :
    Calls Try.prog 33 #[.int .i64 a, .int .i64 b] w fun e w' => e = .returned (.int .i64 (wrem a b)) ∧ w = w' := by
  by_cases hb : b = 0
  · have H := Lib.hid (show Ending.returned (.int .i64 0) = Ending.returned (.int .i64 (wrem a b)) by rw [wrem, if_pos hb])
    have hb' : (b == 0) = true := beq_iff_eq.2 hb
    clear hb
    go_enter Try.func33, Try.ntmps33
    go_wp2
    go_ret
    exact ⟨H.out, rfl⟩
  · have hb' : (b == 0) = false := beq_eq_false_iff_ne.2 hb
    have s0 := usize_nonneg a
    have s1 := usize_le a a0 a1
    have t0 := usize_pos b hb
    by_cases h1 : a < 0
    · have H := Lib.hid (rem_neg a b b0 b1 hb h1)
      go_enter Try.func33, Try.ntmps33
      go_wp2_with (first | (go_at_call 44; first | (with_reducible refine (size_c a a0 a1 _).mono ?_); rintro e w' ⟨rfl, rfl⟩ | (with_reducible refine (size_c b b0 b1 _).mono ?_); rintro e w' ⟨rfl, rfl⟩) | (go_at_call 40; refine (rneg_c _ _).mono ?_; rintro e w' ⟨rfl, rfl⟩))
      go_ret
      exact ⟨H.out, rfl⟩
    · have H := Lib.hid (rem_pos a b b0 b1 hb h1)
      go_enter Try.func33, Try.ntmps33
      go_wp2_with (first | (go_at_call 44; first | (with_reducible refine (size_c a a0 a1 _).mono ?_); rintro e w' ⟨rfl, rfl⟩ | (with_reducible refine (size_c b b0 b1 _).mono ?_); rintro e w' ⟨rfl, rfl⟩) | (go_at_call 40; refine (rneg_c _ _).mono ?_; rintro e w' ⟨rfl, rfl⟩))
      go_ret
      exact ⟨H.out, rfl⟩
theorem rshl_c (a b : Int) (a0 : -9223372036854775808 ≤ a) (a1 : a ≤ 9223372036854775807) (w : World) :
    Calls Try.prog 38 #[.int .i64 a, .int .i64 b] w fun e w' => e = .returned (.int .i64 (wshl a b)) ∧ w = w' := by
  by_cases hb : b < 0
  · have H := Lib.hid (show Ending.returned (.int .i64 0) = Ending.returned (.int .i64 (wshl a b)) by rw [wshl, if_pos hb])
    go_enter Try.func38, Try.ntmps38
    go_wp2
    go_ret
    exact ⟨H.out, rfl⟩
  · have H0 := Lib.hid (pshl_zero a a0 a1)
    clear a0 a1
    go_enter Try.func38, Try.ntmps38
    go_wp2
    go_loop [0, 5] (fun x i => ∃ k : Nat, k ≤ 64 ∧ (k : Int) ≤ b ∧ i = .int .i64 k ∧ x = .int .i64 (pshl a k)) (fun _ i => 64 - (intOf i).toNat)
    case atStart => exact ⟨0, by omega, by omega, rfl, by rw [H0.out]⟩
    case round =>
      obtain ⟨k, hk, hkb, rfl, rfl⟩ := hrel
      by_cases h1 : (k : Int) < b
      · by_cases h2 : k < 64
        · have HS := Lib.hid (pshl_succ a k)
          go_wp2_with (go_at_call 29; refine (radd_c _ _ _).mono ?_; rintro e w' ⟨rfl, rfl⟩)
          go_round
          case rel => exact ⟨k + 1, by omega, by omega, by go_num, by rw [HS.out]⟩
          case measure => simp [intOf]; omega
        · have HE := Lib.hid (pshl_end a b k (by omega) (by omega) hkb (by omega))
          go_wp2
          go_ret
          exact ⟨HE.out, rfl⟩
      · have HE := Lib.hid (pshl_end a b k (by omega) (by omega) hkb (by omega))
        go_wp2
        go_ret
        exact ⟨HE.out, rfl⟩
theorem rshr_c (a b : Int) (a0 : -9223372036854775808 ≤ a) (a1 : a ≤ 9223372036854775807) (w : World) :
    Calls Try.prog 39 #[.int .i64 a, .int .i64 b] w fun e w' => e = .returned (.int .i64 (wshr a b)) ∧ w = w' := by
  by_cases hb : b < 0
  · have H := Lib.hid (show Ending.returned (.int .i64 0) = Ending.returned (.int .i64 (wshr a b)) by rw [wshr, if_pos hb])
    go_enter Try.func39, Try.ntmps39
    go_wp2
    go_ret
    exact ⟨H.out, rfl⟩
  · have H0 := Lib.hid (pshr_zero a)
    go_enter Try.func39, Try.ntmps39
    go_wp2
    go_loop [0, 5] (fun x i => ∃ k : Nat, k ≤ 64 ∧ (k : Int) ≤ b ∧ i = .int .i64 k ∧ x = .int .i64 (pshr a k)) (fun _ i => 64 - (intOf i).toNat)
    case atStart => exact ⟨0, by omega, by omega, rfl, by rw [H0.out]⟩
    case round =>
      obtain ⟨k, hk, hkb, rfl, rfl⟩ := hrel
      by_cases h1 : (k : Int) < b
      · by_cases h2 : k < 64
        · have hr := pshr_range a k a0 a1
          obtain ⟨r0, r1⟩ := hr
          rcases odd_or (pshr a k) with ho | ho
          · have HS := Lib.hid (pshr_even a k ho)
            have hq := u64_even (pshr a k) ho
            clear ho
            go_wp2
            go_round
            case rel => exact ⟨k + 1, by omega, by omega, by go_num, by rw [HS.out]⟩
            case measure => simp [intOf]; omega
          · have HS := Lib.hid (pshr_odd a k ho)
            have hq := u64_odd (pshr a k) ho
            have hr0 : -9223372036854775808 < pshr a k := by omega
            clear ho
            go_wp2
            go_round
            case rel => exact ⟨k + 1, by omega, by omega, by go_num, by rw [HS.out]⟩
            case measure => simp [intOf]; omega
        · have HE := Lib.hid (pshr_end a b k (by omega) (by omega) hkb (by omega))
          go_wp2
          go_ret
          exact ⟨HE.out, rfl⟩
      · have HE := Lib.hid (pshr_end a b k (by omega) (by omega) hkb (by omega))
        go_wp2
        go_ret
        exact ⟨HE.out, rfl⟩

end Go.Proofs.Ytlegpccgmgbekaa
