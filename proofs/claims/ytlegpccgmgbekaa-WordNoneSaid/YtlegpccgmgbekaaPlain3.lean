/- Plain laws behind the document's bit by bit sums: no program here. -/
import Derived.Test.YtlegpccgmgbekaaPlain2
namespace Go.Proofs.Ytlegpccgmgbekaa
open Go.RowKit
def xdiv (x : Int) (k : Nat) : Int := x / 2 ^ k
def ones (k : Nat) : Int := IntKind.u64.wrap (2 ^ k)
def pick (t0 t1 t2 t3 p q : Int) : Int := if p = 0 then (if q = 0 then t0 else t2) else (if q = 0 then t1 else t3)
def bsum (t0 t1 t2 t3 x y : Int) : Nat → Int
  | 0 => 0
  | k + 1 => IntKind.u64.wrap (bsum t0 t1 t2 t3 x y k + IntKind.u64.wrap (ones k * pick t0 t1 t2 t3 (xdiv x k % 2) (xdiv y k % 2)))
theorem xdiv_zero (x : Int) : Value.int .u64 (xdiv x 0) = .int .u64 x := by rw [xdiv, Int.pow_zero, Int.ediv_one]
theorem xdiv_next (x : Int) (k : Nat) : xdiv x (k + 1) = xdiv x k / 2 := by
  rw [xdiv, xdiv, Int.pow_succ, Int.ediv_ediv_of_nonneg (Int.pow_nonneg (by decide))]
theorem xdiv_nonneg (x : Int) (k : Nat) (h : 0 ≤ x) : 0 ≤ xdiv x k := Int.ediv_nonneg h (Int.pow_nonneg (by decide))
theorem xdiv_le (x : Int) (k : Nat) (h : x ≤ 18446744073709551615) (h0 : 0 ≤ x) : xdiv x k ≤ 18446744073709551615 := by
  induction k with
  | zero => rw [xdiv, Int.pow_zero, Int.ediv_one]; exact h
  | succ k ih => have := xdiv_nonneg x k h0; rw [xdiv_next]; omega
theorem ones_next (k : Nat) : ones (k + 1) = IntKind.u64.wrap (2 * ones k) := by
  rw [ones, ones, u64w, u64w, u64w, Int.pow_succ]
  omega
theorem bsum_next (t0 t1 t2 t3 x y : Int) (k : Nat) : bsum t0 t1 t2 t3 x y (k + 1) = IntKind.u64.wrap (bsum t0 t1 t2 t3 x y k + IntKind.u64.wrap (ones k * pick t0 t1 t2 t3 (xdiv x k % 2) (xdiv y k % 2))) := rfl
theorem pick00 (t0 t1 t2 t3 p q : Int) (hp : p = 0) (hq : q = 0) : pick t0 t1 t2 t3 p q = t0 := by rw [pick, if_pos hp, if_pos hq]
theorem pick10 (t0 t1 t2 t3 p q : Int) (hp : p = 1) (hq : q = 0) : pick t0 t1 t2 t3 p q = t1 := by rw [pick, if_neg (by omega), if_pos hq]
theorem pick01 (t0 t1 t2 t3 p q : Int) (hp : p = 0) (hq : q = 1) : pick t0 t1 t2 t3 p q = t2 := by rw [pick, if_pos hp, if_neg (by omega)]
theorem pick11 (t0 t1 t2 t3 p q : Int) (hp : p = 1) (hq : q = 1) : pick t0 t1 t2 t3 p q = t3 := by rw [pick, if_neg (by omega), if_neg (by omega)]

theorem pow_cast (k : Nat) : (2 : Int) ^ k = ((2 ^ k : Nat) : Int) := by simp
theorem ones_small (k : Nat) (h : k < 64) : ones k = ((2 ^ k : Nat) : Int) := by
  have h2 : 2 ^ k ≤ 2 ^ 63 := Nat.pow_le_pow_right (by decide) (by omega)
  rw [ones, u64w, pow_cast]
  generalize 2 ^ k = P at *
  omega
theorem xdiv_cast (A k : Nat) : xdiv (A : Int) k % 2 = ((A / 2 ^ k % 2 : Nat) : Int) := by
  rw [xdiv, pow_cast]; simp
/-- What has been added up behind k steps: the number's k lowest bits. -/
theorem bsum_is (t0 t1 t2 t3 : Int) (A B C : Nat) (h : ∀ k, k < 64 → pick t0 t1 t2 t3 ((A / 2 ^ k % 2 : Nat) : Int) ((B / 2 ^ k % 2 : Nat) : Int) = ((C / 2 ^ k % 2 : Nat) : Int)) :
    ∀ k, k ≤ 64 → bsum t0 t1 t2 t3 A B k = ((C % 2 ^ k : Nat) : Int) := by
  intro k
  induction k with
  | zero => intro _; simp [bsum, Nat.mod_one]
  | succ k ih =>
    intro hk
    rw [bsum_next, ih (by omega), xdiv_cast, xdiv_cast, h k (by omega), ones_small k (by omega), u64w, u64w, Nat.pow_succ, Nat.mod_mul]
    have h2 : 2 ^ k ≤ 2 ^ 63 := Nat.pow_le_pow_right (by decide) (by omega)
    have h3 : C % 2 ^ k < 2 ^ k := Nat.mod_lt _ (Nat.two_pow_pos k)
    have h4 : C / 2 ^ k % 2 < 2 := Nat.mod_lt _ (by decide)
    generalize 2 ^ k = P at *
    generalize C % P = r at *
    rcases (show C / P % 2 = 0 ∨ C / P % 2 = 1 by omega) with h5 | h5
    · rw [h5]; simp; omega
    · rw [h5]; simp; omega
theorem bsum_all (t0 t1 t2 t3 : Int) (A B C : Nat) (hC : C < 18446744073709551616) (h : ∀ k, k < 64 → pick t0 t1 t2 t3 ((A / 2 ^ k % 2 : Nat) : Int) ((B / 2 ^ k % 2 : Nat) : Int) = ((C / 2 ^ k % 2 : Nat) : Int)) :
    bsum t0 t1 t2 t3 A B 64 = C := by
  rw [bsum_is t0 t1 t2 t3 A B C h 64 (Nat.le_refl _), Nat.mod_eq_of_lt hC]
theorem u64_nat (a : Int) : IntKind.u64.wrap a = ((BitVec.ofInt 64 a).toNat : Int) := by
  rw [u64w, BitVec.toNat_ofInt]
  have : (0 : Int) ≤ a % 2 ^ 64 := Int.emod_nonneg _ (by decide)
  omega
def bn (b : Bool) : Nat := if b then 1 else 0
theorem bit_of (x : BitVec 64) (k : Nat) : x.toNat / 2 ^ k % 2 = bn (x.getLsbD k) := by
  rw [← BitVec.testBit_toNat, Nat.testBit_eq_decide_div_mod_eq, bn]
  by_cases h : x.toNat / 2 ^ k % 2 = 1
  · rw [h]; simp
  · have : x.toNat / 2 ^ k % 2 = 0 := by omega
    rw [this]; simp
theorem bsum_bv (t0 t1 t2 t3 : Int) (x y z : BitVec 64) (h : ∀ k, k < 64 → pick t0 t1 t2 t3 (bn (x.getLsbD k)) (bn (y.getLsbD k)) = bn (z.getLsbD k)) : bsum t0 t1 t2 t3 x.toNat y.toNat 64 = z.toNat :=
  bsum_all t0 t1 t2 t3 _ _ _ z.isLt fun k hk => by rw [bit_of, bit_of, bit_of]; exact h k hk
theorem bits_is (op : BinOp) (a b : Int) (z : BitVec 64) (h : bits op .i64 a b = IntKind.i64.wrap (z.toNat : Int)) (t0 t1 t2 t3 : Int)
    (hz : ∀ k, k < 64 → pick t0 t1 t2 t3 (bn ((BitVec.ofInt 64 a).getLsbD k)) (bn ((BitVec.ofInt 64 b).getLsbD k)) = bn (z.getLsbD k)) :
    wrap64 (bsum t0 t1 t2 t3 (IntKind.u64.wrap a) (IntKind.u64.wrap b) 64) = bits op .i64 a b := by
  rw [u64_nat, u64_nat, bsum_bv t0 t1 t2 t3 _ _ z hz, h, i64w]
theorem and_is (a b : Int) : Ending.returned (.int .i64 (wrap64 (bsum 0 0 0 1 (IntKind.u64.wrap a) (IntKind.u64.wrap b) 64))) = Ending.returned (.int .i64 (wand a b)) :=
  ret64 (bits_is .and a b (BitVec.ofInt 64 a &&& BitVec.ofInt 64 b) rfl 0 0 0 1 fun k _ => by
    rw [BitVec.getLsbD_and]; cases (BitVec.ofInt 64 a).getLsbD k <;> cases (BitVec.ofInt 64 b).getLsbD k <;> rfl)
theorem or_is (a b : Int) : Ending.returned (.int .i64 (wrap64 (bsum 0 1 1 1 (IntKind.u64.wrap a) (IntKind.u64.wrap b) 64))) = Ending.returned (.int .i64 (wor a b)) :=
  ret64 (bits_is .or a b (BitVec.ofInt 64 a ||| BitVec.ofInt 64 b) rfl 0 1 1 1 fun k _ => by
    rw [BitVec.getLsbD_or]; cases (BitVec.ofInt 64 a).getLsbD k <;> cases (BitVec.ofInt 64 b).getLsbD k <;> rfl)
theorem xor_is (a b : Int) : Ending.returned (.int .i64 (wrap64 (bsum 0 1 1 0 (IntKind.u64.wrap a) (IntKind.u64.wrap b) 64))) = Ending.returned (.int .i64 (wxor a b)) :=
  ret64 (bits_is .xor a b (BitVec.ofInt 64 a ^^^ BitVec.ofInt 64 b) rfl 0 1 1 0 fun k _ => by
    rw [BitVec.getLsbD_xor]; cases (BitVec.ofInt 64 a).getLsbD k <;> cases (BitVec.ofInt 64 b).getLsbD k <;> rfl)
theorem bic_is (a b : Int) : Ending.returned (.int .i64 (wrap64 (bsum 0 1 0 0 (IntKind.u64.wrap a) (IntKind.u64.wrap b) 64))) = Ending.returned (.int .i64 (wbic a b)) :=
  ret64 (bits_is .andNot a b (BitVec.ofInt 64 a &&& ~~~ BitVec.ofInt 64 b) rfl 0 1 0 0 fun k hk => by
    rw [BitVec.getLsbD_and, BitVec.getLsbD_not, decide_eq_true hk]; cases (BitVec.ofInt 64 a).getLsbD k <;> cases (BitVec.ofInt 64 b).getLsbD k <;> rfl)
theorem inv_is (a : Int) : Ending.returned (.int .i64 (wrap64 (bsum 1 0 0 0 (IntKind.u64.wrap a) (IntKind.u64.wrap 0) 64))) = Ending.returned (.int .i64 (winv a)) :=
  ret64 (by
    rw [winv]
    have hz : ∀ k, k < 64 → pick 1 0 0 0 (bn ((BitVec.ofInt 64 a).getLsbD k)) (bn ((BitVec.ofInt 64 0).getLsbD k)) = bn ((BitVec.ofInt 64 (-1) ^^^ BitVec.ofInt 64 a).getLsbD k) := fun k hk => by
      have h1 : (BitVec.ofInt 64 0).getLsbD k = false := by simp
      have h2 : (BitVec.ofInt 64 (-1)).getLsbD k = true := by
        rw [show BitVec.ofInt 64 (-1) = BitVec.allOnes 64 from by decide, BitVec.getLsbD_allOnes]; simpa using hk
      rw [BitVec.getLsbD_xor, h1, h2]; cases (BitVec.ofInt 64 a).getLsbD k <;> rfl
    rw [u64_nat, u64_nat, bsum_bv 1 0 0 0 _ _ _ hz, ← i64w]
    rfl)
end Go.Proofs.Ytlegpccgmgbekaa
