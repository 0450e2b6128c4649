/- Plain laws behind the walks of the document's own word functions: no program here. -/
import Derived.Test.YtlegpccgmgbekaaPlain
import Derived.WalkKit
namespace Go.Proofs.Ytlegpccgmgbekaa
open Go.RowKit
theorem u64w (n : Int) : IntKind.u64.wrap n = n % 18446744073709551616 := by simp [IntKind.wrap, IntKind.bits, IntKind.signed]
theorem i64w (n : Int) : IntKind.i64.wrap n = wrap64 n := IntWalk.i64_left n
theorem w64 (n : Int) : wrap64 n = (n + 9223372036854775808) % 18446744073709551616 - 9223372036854775808 := by unfold wrap64; rfl
/-- Two numbers that are the same modulo 2^64 wrap alike. -/
theorem wrap_congr {m n : Int} (h : m % 18446744073709551616 = n % 18446744073709551616) : wrap64 m = wrap64 n := by rw [w64, w64]; omega
theorem ret64 {m n : Int} (h : m = n) : Ending.returned (.int .i64 m) = Ending.returned (.int .i64 n) := by rw [h]
theorem retu64 {m n : Int} (h : m = n) : Ending.returned (.int .u64 m) = Ending.returned (.int .u64 n) := by rw [h]
theorem radd_eq (a b : Int) : Ending.returned (.int .i64 (wrap64 (IntKind.u64.wrap (IntKind.u64.wrap a + IntKind.u64.wrap b)))) = Ending.returned (.int .i64 (wadd a b)) :=
  ret64 (by rw [u64w, u64w, u64w, wadd]; exact wrap_congr (by omega))
theorem rsub_eq (a b : Int) : Ending.returned (.int .i64 (wrap64 (IntKind.u64.wrap (IntKind.u64.wrap a - IntKind.u64.wrap b)))) = Ending.returned (.int .i64 (wsub a b)) :=
  ret64 (by rw [u64w, u64w, u64w, wsub]; exact wrap_congr (by omega))
theorem rmul_eq (a b : Int) : Ending.returned (.int .i64 (wrap64 (IntKind.u64.wrap (IntKind.u64.wrap a * IntKind.u64.wrap b)))) = Ending.returned (.int .i64 (wmul a b)) :=
  ret64 (by rw [u64w, u64w, u64w, wmul]; exact wrap_congr (by rw [Int.emod_emod_of_dvd _ (Int.dvd_refl _), ← Int.mul_emod]))
theorem rneg_eq (a : Int) : Ending.returned (.int .i64 (wsub 0 a)) = Ending.returned (.int .i64 (wneg a)) := ret64 (by rw [wsub, wneg, Int.zero_sub])
def usize (a : Int) : Int := if a < 0 then -a else a
theorem size_neg (a : Int) (h0 : -9223372036854775808 ≤ a) (h : a < 0) : Ending.returned (.int .u64 (IntKind.u64.wrap (-IntKind.u64.wrap a))) = Ending.returned (.int .u64 (usize a)) :=
  retu64 (by rw [u64w, u64w, usize, if_pos h]; omega)
theorem size_pos (a : Int) (h : ¬ a < 0) : Ending.returned (.int .u64 a) = Ending.returned (.int .u64 (usize a)) := retu64 (by rw [usize, if_neg h])
theorem usize_nonneg (a : Int) : 0 ≤ usize a := by unfold usize; split <;> omega
theorem usize_le (a : Int) (h0 : -9223372036854775808 ≤ a) (h1 : a ≤ 9223372036854775807) : usize a ≤ 9223372036854775808 := by unfold usize; split <;> omega
theorem usize_pos (a : Int) (h : a ≠ 0) : 1 ≤ usize a := by unfold usize; split <;> omega
theorem usize_tdiv (a b : Int) : a.tdiv b = if (a < 0) = (b < 0) then usize a / usize b else -(usize a / usize b) := by
  unfold usize
  by_cases h1 : a < 0 <;> by_cases h2 : b < 0 <;> simp only [h1, h2, if_true, if_false, eq_self]
  · rw [← Int.neg_tdiv_neg, Int.tdiv_eq_ediv_of_nonneg (by omega)]
  · have := Int.neg_tdiv (-a) b; rw [Int.neg_neg] at this; rw [this, Int.tdiv_eq_ediv_of_nonneg (by omega)]; simp
  · have := Int.tdiv_neg a (-b); rw [Int.neg_neg] at this; rw [this, Int.tdiv_eq_ediv_of_nonneg (by omega)]; simp
  · rw [Int.tdiv_eq_ediv_of_nonneg (by omega)]
theorem usize_tmod (a b : Int) : a.tmod b = if a < 0 then -(usize a % usize b) else usize a % usize b := by
  unfold usize
  by_cases h1 : a < 0 <;> by_cases h2 : b < 0 <;> simp only [h1, h2, if_true, if_false]
  · have := Int.neg_tmod (-a) b; rw [Int.neg_neg] at this; rw [this, Int.tmod_eq_emod_of_nonneg (by omega), Int.emod_neg]
  · have := Int.neg_tmod (-a) b; rw [Int.neg_neg] at this; rw [this, Int.tmod_eq_emod_of_nonneg (by omega)]
  · rw [Int.tmod_eq_emod_of_nonneg (by omega), Int.emod_neg]
  · rw [Int.tmod_eq_emod_of_nonneg (by omega)]
theorem div_same (a b : Int) (hb : b ≠ 0) (h : (a < 0 ∧ b < 0) ∨ (¬ a < 0 ∧ ¬ b < 0)) : Ending.returned (.int .i64 (wrap64 (usize a / usize b))) = Ending.returned (.int .i64 (wdiv a b)) :=
  ret64 (by rw [wdiv, if_neg hb, usize_tdiv, if_pos (by rcases h with ⟨h1, h2⟩ | ⟨h1, h2⟩ <;> simp [h1, h2])])
theorem div_mixed (a b : Int) (hb : b ≠ 0) (h : (a < 0 ∧ ¬ b < 0) ∨ (¬ a < 0 ∧ b < 0)) : Ending.returned (.int .i64 (wneg (wrap64 (usize a / usize b)))) = Ending.returned (.int .i64 (wdiv a b)) :=
  ret64 (by
    rw [wdiv, if_neg hb, usize_tdiv, if_neg (by rcases h with ⟨h1, h2⟩ | ⟨h1, h2⟩ <;> simp [h1, h2]), wneg]
    generalize usize a / usize b = q
    refine wrap_congr ?_
    rw [w64]
    omega)
theorem rem_small (a b : Int) (b0 : -9223372036854775808 ≤ b) (b1 : b ≤ 9223372036854775807) (hb : b ≠ 0) : 0 ≤ usize a % usize b ∧ usize a % usize b ≤ 9223372036854775807 := by
  have h1 := usize_le b b0 b1
  have h2 := usize_pos b hb
  have h3 := Int.emod_nonneg (usize a) (show usize b ≠ 0 by omega)
  have h4 := Int.emod_lt_of_pos (usize a) (show 0 < usize b by omega)
  omega
theorem rem_neg (a b : Int) (b0 : -9223372036854775808 ≤ b) (b1 : b ≤ 9223372036854775807) (hb : b ≠ 0) (h : a < 0) : Ending.returned (.int .i64 (wneg (wrap64 (usize a % usize b)))) = Ending.returned (.int .i64 (wrem a b)) :=
  ret64 (by
    have h1 := rem_small a b b0 b1 hb
    rw [wrem, if_neg hb, usize_tmod, if_pos h, wneg]
    generalize usize a % usize b = q at *
    rw [w64, w64]
    omega)
theorem rem_pos (a b : Int) (b0 : -9223372036854775808 ≤ b) (b1 : b ≤ 9223372036854775807) (hb : b ≠ 0) (h : ¬ a < 0) : Ending.returned (.int .i64 (wrap64 (usize a % usize b))) = Ending.returned (.int .i64 (wrem a b)) :=
  ret64 (by
    have h1 := rem_small a b b0 b1 hb
    rw [wrem, if_neg hb, usize_tmod, if_neg h]
    generalize usize a % usize b = q at *
    rw [w64]
    omega)
/-! Shifts, step by step. -/
def pshl (a : Int) (k : Nat) : Int := wrap64 (a * 2 ^ k)
def pshr (a : Int) (k : Nat) : Int := a / 2 ^ k
theorem int64 {m n : Int} (h : m = n) : Value.int .i64 m = Value.int .i64 n := by rw [h]
theorem pshl_zero (a : Int) (h0 : -9223372036854775808 ≤ a) (h1 : a ≤ 9223372036854775807) : Value.int .i64 (pshl a 0) = .int .i64 a :=
  int64 (by rw [pshl, Int.pow_zero, Int.mul_one, w64]; omega)
theorem pshl_succ (a : Int) (k : Nat) : Value.int .i64 (pshl a (k + 1)) = .int .i64 (wadd (pshl a k) (pshl a k)) :=
  int64 (by
    rw [pshl, pshl, wadd, Int.pow_succ, ← Int.mul_assoc]
    generalize a * 2 ^ k = q
    refine wrap_congr ?_
    rw [w64]
    omega)
theorem pshl_end (a b : Int) (k : Nat) (hb : ¬ b < 0) (h : (k : Int) ≤ 64) (hk : (k : Int) ≤ b) (he : (k : Int) = b ∨ k = 64) : Ending.returned (.int .i64 (pshl a k)) = Ending.returned (.int .i64 (wshl a b)) :=
  ret64 (by
    have : min b.toNat 64 = k := by omega
    rw [wshl, if_neg hb, shlN, pshl, this, i64w])
theorem pshr_zero (a : Int) : Value.int .i64 (pshr a 0) = .int .i64 a := int64 (by rw [pshr, Int.pow_zero, Int.ediv_one])
theorem pshr_next (a : Int) (k : Nat) : pshr a (k + 1) = pshr a k / 2 := by
  rw [pshr, pshr, Int.pow_succ, Int.ediv_ediv_of_nonneg (Int.pow_nonneg (by decide))]
theorem pshr_range (a : Int) (k : Nat) (h0 : -9223372036854775808 ≤ a) (h1 : a ≤ 9223372036854775807) : -9223372036854775808 ≤ pshr a k ∧ pshr a k ≤ 9223372036854775807 := by
  induction k with
  | zero => rw [pshr, Int.pow_zero, Int.ediv_one]; omega
  | succ k ih => rw [pshr_next]; omega
theorem odd_or (x : Int) : x % 2 = 0 ∨ x % 2 = 1 := by omega
theorem u64_even (x : Int) (h : x % 2 = 0) : ((IntKind.u64.wrap x).tmod 2 == 1) = false := by
  have h2 : (IntKind.u64.wrap x).tmod 2 = 0 := by
    rw [u64w, Int.tmod_eq_emod_of_nonneg (by omega)]; omega
  rw [h2]; rfl
theorem u64_odd (x : Int) (h : x % 2 = 1) : ((IntKind.u64.wrap x).tmod 2 == 1) = true := by
  have h2 : (IntKind.u64.wrap x).tmod 2 = 1 := by
    rw [u64w, Int.tmod_eq_emod_of_nonneg (by omega)]; omega
  rw [h2]; rfl
theorem pshr_even (a : Int) (k : Nat) (ho : pshr a k % 2 = 0) : Value.int .i64 (pshr a (k + 1)) = .int .i64 ((pshr a k).tdiv 2) :=
  int64 (by
    rw [pshr_next]
    generalize pshr a k = q at *
    rw [tdiv_eq_if]
    split <;> omega)
theorem pshr_odd (a : Int) (k : Nat) (ho : pshr a k % 2 = 1) : Value.int .i64 (pshr a (k + 1)) = .int .i64 ((pshr a k - 1).tdiv 2) :=
  int64 (by
    rw [pshr_next]
    generalize pshr a k = q at *
    rw [tdiv_eq_if]
    split <;> omega)
theorem pshr_end (a b : Int) (k : Nat) (hb : ¬ b < 0) (h : (k : Int) ≤ 64) (hk : (k : Int) ≤ b) (he : (k : Int) = b ∨ k = 64) : Ending.returned (.int .i64 (pshr a k)) = Ending.returned (.int .i64 (wshr a b)) :=
  ret64 (by
    have : min b.toNat 64 = k := by omega
    rw [wshr, if_neg hb, shrN, pshr, this])
end Go.Proofs.Ytlegpccgmgbekaa
