/- Plain laws on the words: sums are a ring's, quotients and what is left, bits, shifts, comparisons. No program here. -/
import Derived.Test.YtlegpccgmgbekaaPlain3
set_option linter.unusedVariables false
namespace Go.Proofs.Ytlegpccgmgbekaa
open Go.RowKit
theorem in_wrap (x : Int) (h0 : -9223372036854775808 ≤ x) (h1 : x ≤ 9223372036854775807) : wrap64 x = x := by rw [w64]; omega
theorem wrap_mod (x : Int) : wrap64 x % 18446744073709551616 = x % 18446744073709551616 := by rw [w64]; omega
theorem wrap_mul (x c : Int) : wrap64 (wrap64 x * c) = wrap64 (x * c) := wrap_congr (by rw [Int.mul_emod, wrap_mod, ← Int.mul_emod])
theorem wrap_mul' (x c : Int) : wrap64 (c * wrap64 x) = wrap64 (c * x) := by rw [Int.mul_comm, wrap_mul, Int.mul_comm]
theorem wrap_add (x y : Int) : wrap64 (wrap64 x + wrap64 y) = wrap64 (x + y) := wrap_congr (by rw [w64, w64]; omega)
theorem add_comm_ (a b : Int) : wadd a b = wadd b a := by rw [wadd, wadd, Int.add_comm]
theorem mul_comm_ (a b : Int) : wmul a b = wmul b a := by rw [wmul, wmul, Int.mul_comm]
theorem add_assoc_ (a b c : Int) : wadd (wadd a b) c = wadd a (wadd b c) := by rw [wadd, wadd, wadd, wadd]; exact wrap_congr (by rw [w64, w64]; omega)
theorem mul_assoc_ (a b c : Int) : wmul (wmul a b) c = wmul a (wmul b c) := by rw [wmul, wmul, wmul, wmul, wrap_mul, wrap_mul', Int.mul_assoc]
theorem mul_add_ (a b c : Int) : wmul a (wadd b c) = wadd (wmul a b) (wmul a c) := by rw [wmul, wmul, wmul, wadd, wadd, wrap_add, wrap_mul', Int.mul_add]
theorem add_zero_ (a : Int) (h0 : -9223372036854775808 ≤ a) (h1 : a ≤ 9223372036854775807) : wadd a 0 = a := by rw [wadd, Int.add_zero, in_wrap a h0 h1]
theorem mul_one_ (a : Int) (h0 : -9223372036854775808 ≤ a) (h1 : a ≤ 9223372036854775807) : wmul a 1 = a := by rw [wmul, Int.mul_one, in_wrap a h0 h1]
theorem add_sub_ (a b : Int) (h0 : -9223372036854775808 ≤ a) (h1 : a ≤ 9223372036854775807) : wsub (wadd a b) b = a := by rw [wsub, wadd, w64, w64]; omega
theorem add_neg_ (a : Int) : wadd a (wneg a) = 0 := by rw [wadd, wneg, w64, w64]; omega
theorem sub_is_ (a b : Int) : wsub a b = wadd a (wneg b) := by rw [wsub, wadd, wneg]; exact wrap_congr (by rw [w64]; omega)
theorem mul_neg_ (a : Int) : wmul a (-1) = wneg a := by rw [wmul, wneg, Int.mul_neg, Int.mul_one]
/-! Quotient and what is left. -/
theorem parts_again (a b : Int) (a0 : -9223372036854775808 ≤ a) (a1 : a ≤ 9223372036854775807) (hb : b ≠ 0) : wadd (wmul (wdiv a b) b) (wrem a b) = a := by
  rw [wadd, wmul, wdiv, wrem, if_neg hb, if_neg hb, wrap_mul]
  have h : b * a.tdiv b + a.tmod b = a := Int.mul_tdiv_add_tmod a b
  have h2 : wrap64 (wrap64 (a.tdiv b * b) + a.tmod b) = wrap64 (a.tdiv b * b + a.tmod b) := wrap_congr (by rw [w64]; omega)
  rw [h2, Int.mul_comm, h, in_wrap a a0 a1]
theorem rem_range (a b : Int) (b0 : -9223372036854775808 ≤ b) (b1 : b ≤ 9223372036854775807) (hb : b ≠ 0) : wrem a b < usize b ∧ -usize b < wrem a b ∧ (0 ≤ a → 0 ≤ wrem a b) ∧ (a ≤ 0 → wrem a b ≤ 0) := by
  have h2 := usize_pos b hb
  have h3 := Int.emod_nonneg (usize a) (show usize b ≠ 0 by omega)
  have h4 := Int.emod_lt_of_pos (usize a) (show 0 < usize b by omega)
  rw [wrem, if_neg hb, usize_tmod]
  have hz : a = 0 → usize a % usize b = 0 := by rintro rfl; rw [show usize 0 = 0 from rfl, Int.zero_emod]
  generalize usize a % usize b = q at *
  split
  · omega
  · by_cases h0 : a = 0
    · have := hz h0; omega
    · omega
theorem min_rem (a : Int) (a0 : -9223372036854775808 ≤ a) (a1 : a ≤ 9223372036854775807) (h : a ≠ -9223372036854775808) : wrem a (-9223372036854775808) = a ∧ wdiv a (-9223372036854775808) = 0 := by
  have hlt : usize a < 9223372036854775808 := by unfold usize; split <;> omega
  have h9 : usize (-9223372036854775808) = 9223372036854775808 := rfl
  have hn : ¬ (-9223372036854775808 : Int) = 0 := by decide
  have e1 := Int.emod_eq_of_lt (usize_nonneg a) hlt
  have e2 := Int.ediv_eq_zero_of_lt (usize_nonneg a) hlt
  constructor
  · rw [wrem, if_neg hn, usize_tmod, h9, e1]
    unfold usize
    by_cases h0 : a < 0
    · rw [if_pos h0, if_pos h0]; omega
    · rw [if_neg h0, if_neg h0]
  · rw [wdiv, if_neg hn, usize_tdiv, h9, e2, w64]
    split <;> rfl
theorem min_self : wrem (-9223372036854775808) (-9223372036854775808) = 0 ∧ wdiv (-9223372036854775808) (-9223372036854775808) = 1 := by
  constructor
  · rw [wrem, if_neg (by decide)]; decide
  · rw [wdiv, if_neg (by decide), w64]; decide
/-! Bits. -/
def bv (a : Int) : BitVec 64 := BitVec.ofInt 64 a
theorem wrap_nat (z : BitVec 64) : wrap64 (z.toNat : Int) = z.toInt := by
  rw [BitVec.toInt_eq_toNat_bmod, w64, Int.bmod]
  have := z.isLt
  split <;> omega
theorem bv_toInt (z : BitVec 64) : bv z.toInt = z := BitVec.ofInt_toInt
theorem toInt_bv (a : Int) (h0 : -9223372036854775808 ≤ a) (h1 : a ≤ 9223372036854775807) : (bv a).toInt = a := by
  rw [bv, BitVec.toInt_ofInt, Int.bmod]
  split <;> omega
theorem wrap_bv (n : Int) : wrap64 n = (bv n).toInt := by
  rw [bv, BitVec.toInt_ofInt, Int.bmod, w64]
  split <;> omega
theorem wand_bv (a b : Int) : wand a b = (bv a &&& bv b).toInt := by rw [← wrap_nat, ← i64w]; rfl
theorem wor_bv (a b : Int) : wor a b = (bv a ||| bv b).toInt := by rw [← wrap_nat, ← i64w]; rfl
theorem wxor_bv (a b : Int) : wxor a b = (bv a ^^^ bv b).toInt := by rw [← wrap_nat, ← i64w]; rfl
theorem wbic_bv (a b : Int) : wbic a b = (bv a &&& ~~~ bv b).toInt := by rw [← wrap_nat, ← i64w]; rfl
theorem winv_bv (a : Int) : winv a = (~~~ bv a).toInt := by
  have h : winv a = (bv (-1) ^^^ bv a).toInt := by rw [← wrap_nat, ← i64w]; rfl
  rw [h, show bv (-1) = BitVec.allOnes 64 from by decide, BitVec.allOnes_xor]
theorem wadd_bv (a b : Int) : wadd a b = (bv a + bv b).toInt := by rw [wadd, wrap_bv, bv, bv, bv, BitVec.ofInt_add]
theorem wsub_bv (a b : Int) : wsub a b = (bv a - bv b).toInt := by
  rw [sub_is_, wadd_bv, wneg, wrap_bv, bv_toInt, BitVec.sub_eq_add_neg]
  rw [bv, bv, bv, BitVec.ofInt_neg]
theorem disj (x y : BitVec 64) (h : x &&& y = 0) : x + y = x ||| y := BitVec.add_eq_or_of_and_eq_zero x y h
theorem bv_ext {x y : BitVec 64} (h : ∀ i, i < 64 → x.getLsbD i = y.getLsbD i) : x = y := BitVec.eq_of_getLsbD_eq fun i hi => h i hi
theorem or_bv (x y : BitVec 64) : (x ^^^ y) + (x &&& y) = x ||| y := by
  rw [disj _ _ (bv_ext fun i _ => by simp only [BitVec.getLsbD_and, BitVec.getLsbD_xor]; cases x.getLsbD i <;> cases y.getLsbD i <;> simp)]
  exact bv_ext fun i _ => by simp only [BitVec.getLsbD_and, BitVec.getLsbD_xor, BitVec.getLsbD_or]; cases x.getLsbD i <;> cases y.getLsbD i <;> rfl
theorem bic_bv (x y : BitVec 64) : (x &&& ~~~ y) + (x &&& y) = x := by
  rw [disj _ _ (bv_ext fun i hi => by simp only [BitVec.getLsbD_and, BitVec.getLsbD_not, decide_eq_true hi]; cases x.getLsbD i <;> cases y.getLsbD i <;> simp)]
  exact bv_ext fun i hi => by simp only [BitVec.getLsbD_and, BitVec.getLsbD_not, decide_eq_true hi, BitVec.getLsbD_or]; cases x.getLsbD i <;> cases y.getLsbD i <;> rfl
theorem or_bv2 (x y : BitVec 64) : x + (y &&& ~~~ x) = x ||| y := by
  rw [disj _ _ (bv_ext fun i hi => by simp only [BitVec.getLsbD_and, BitVec.getLsbD_not, decide_eq_true hi]; cases x.getLsbD i <;> cases y.getLsbD i <;> simp)]
  exact bv_ext fun i hi => by simp only [BitVec.getLsbD_and, BitVec.getLsbD_not, decide_eq_true hi, BitVec.getLsbD_or]; cases x.getLsbD i <;> cases y.getLsbD i <;> rfl
theorem and_or_bv (x y : BitVec 64) : (x &&& y) + (x ||| y) = x + y := by
  rw [← or_bv2, BitVec.and_comm x y, BitVec.add_comm, BitVec.add_assoc, bic_bv]
theorem xor_xor_ (a b : Int) (a0 : -9223372036854775808 ≤ a) (a1 : a ≤ 9223372036854775807) : wxor (wxor a b) b = a := by
  rw [wxor_bv, wxor_bv, bv_toInt, BitVec.xor_assoc, BitVec.xor_self, BitVec.xor_zero, toInt_bv a a0 a1]
theorem inv_inv_ (a : Int) (a0 : -9223372036854775808 ≤ a) (a1 : a ≤ 9223372036854775807) : winv (winv a) = a := by
  rw [winv_bv, winv_bv, bv_toInt, BitVec.not_not, toInt_bv a a0 a1]
theorem add_inv_ (a : Int) : wadd a (winv a) = -1 := by
  rw [wadd_bv, winv_bv, bv_toInt, BitVec.add_not_self]; decide
theorem and_or_ (a b : Int) : wadd (wand a b) (wor a b) = wadd a b := by rw [wadd_bv, wadd_bv, wand_bv, wor_bv, bv_toInt, bv_toInt, and_or_bv]
theorem xor_sub_ (a b : Int) : wxor a b = wsub (wor a b) (wand a b) := by
  rw [wsub_bv, wxor_bv, wand_bv, wor_bv, bv_toInt, bv_toInt, ← or_bv, BitVec.add_sub_cancel]
theorem bic_sub_ (a b : Int) : wbic a b = wsub a (wand a b) := by
  rw [wsub_bv, wbic_bv, wand_bv, bv_toInt]
  have h := bic_bv (bv a) (bv b)
  have h2 := BitVec.add_sub_cancel (bv a &&& ~~~ bv b) (bv a &&& bv b)
  rw [h] at h2
  rw [h2]
theorem bic_and_ (a b : Int) : wbic a b = wand a (winv b) := by rw [wbic_bv, wand_bv, winv_bv, bv_toInt]
theorem inv_and_ (a b : Int) : winv (wand a b) = wor (winv a) (winv b) := by
  rw [winv_bv, wand_bv, wor_bv, winv_bv, winv_bv, bv_toInt, bv_toInt, bv_toInt, BitVec.not_and]
/-! Shifts. -/
theorem and_one (y : Int) : wand y 1 = y % 2 := by
  rw [wand_bv]
  have h : bv y &&& bv 1 = bv (y % 2) := by
    rcases odd_or y with h | h
    all_goals
      rw [h]
      refine bv_ext fun i hi => ?_
      simp only [BitVec.getLsbD_and]
      by_cases h0 : i = 0
      · subst h0
        have : (bv y).getLsbD 0 = decide (y % 2 = 1) := by
          rw [← BitVec.testBit_toNat, Nat.testBit_zero, bv, BitVec.toNat_ofInt]
          congr 1
          apply propext
          omega
        rw [this, h]
        decide
      · have h1 : (bv 1).getLsbD i = false := by
          have : (bv 1) = 1#64 := by decide
          rw [this, BitVec.getLsbD_one]
          simp [h0]
        have h2 : (bv 0).getLsbD i = false := by
          have : (bv 0) = 0#64 := by decide
          rw [this, BitVec.getLsbD_zero]
        simp [h1, h2]
  rw [h, toInt_bv _ (by omega) (by omega)]
theorem shr_step (a : Int) (k : Nat) (a0 : -9223372036854775808 ≤ a) (a1 : a ≤ 9223372036854775807) : wdiv (wsub (pshr a k) (wand (pshr a k) 1)) 2 = pshr a (k + 1) := by
  obtain ⟨r0, r1⟩ := pshr_range a k a0 a1
  rw [and_one, pshr_next]
  generalize pshr a k = q at *
  rw [wsub, in_wrap _ (by omega) (by omega), wdiv, if_neg (by decide), tdiv_eq_if, in_wrap _ (by split <;> omega) (by split <;> omega)]
  split <;> omega
theorem shl_step (a : Int) (k : Nat) : wmul (pshl a k) 2 = pshl a (k + 1) := by
  rw [pshl, pshl, wmul, wrap_mul, Int.pow_succ, Int.mul_assoc]
theorem pshl_is (a b : Int) (k : Nat) (hk : (k : Int) = b) (h : k ≤ 64) : wshl a b = pshl a k := by
  have : min b.toNat 64 = k := by omega
  rw [wshl, if_neg (by omega), shlN, pshl, this, i64w]
theorem pshr_is (a b : Int) (k : Nat) (hk : (k : Int) = b) (h : k ≤ 64) : wshr a b = pshr a k := by
  have : min b.toNat 64 = k := by omega
  rw [wshr, if_neg (by omega), shrN, pshr, this]
theorem shl_far (a b : Int) (h : 63 < b) : wshl a b = 0 := by
  have h2 : min b.toNat 64 = 64 := by omega
  rw [wshl, if_neg (by omega), shlN, h2, i64w, w64]
  omega
theorem shr_far (a b : Int) (a0 : -9223372036854775808 ≤ a) (a1 : a ≤ 9223372036854775807) (h : 63 < b) : wshr a b = if a < 0 then -1 else 0 := by
  have h2 : min b.toNat 64 = 64 := by omega
  rw [wshr, if_neg (by omega), shrN, h2]
  split <;> omega
theorem shl_neg (a b : Int) (h : b < 0) : wshl a b = 0 := by rw [wshl, if_pos h]
theorem shr_neg (a b : Int) (h : b < 0) : wshr a b = 0 := by rw [wshr, if_pos h]
end Go.Proofs.Ytlegpccgmgbekaa
